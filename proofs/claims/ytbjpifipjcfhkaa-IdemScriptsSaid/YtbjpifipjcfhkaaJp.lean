/-
  IdemScripts, walked.
-/
import Derived.Test.YtbjpifipjcfhkaaJo
namespace Go.Proofs.Ytbjpifipjcfhkaa
open Go.ChangeShapes Go.WideShapes Go.ChangeAt Go.RowKit Fx

structure OpI where
  doo : Int
  b : BatchC
  n : Int
def opI (o : OpI) : Array Value := #[.int .i64 o.doo, .int .i64 o.b.base, .int .i64 o.b.span, .int .i64 o.b.prod, .int .i64 o.b.epoch, .int .i64 o.b.seq, .slice o.b.ra o.b.rn o.b.rc, .int .i64 o.n]
def rOpI : Rdr OpI := fun _ cs o => cs = (opI o).toList
theorem stable_opI : Stable rOpI := fun _ _ _ _ _ h => h
theorem cellsOpI : Try.prog.cellsOf 33 = 8 := by kernel_rfl
theorem eight {α : Type} (l : List α) (h : l.length = 8) : ∃ a b c d e f g i, l = [a, b, c, d, e, f, g, i] := by
  match l, h with
  | [a, b, c, d, e, f, g, i], _ => exact ⟨a, b, c, d, e, f, g, i, rfl⟩
theorem three {α : Type} (l : List α) (h : l.length = 3) : ∃ a b c, l = [a, b, c] := by
  match l, h with
  | [a, b, c], _ => exact ⟨a, b, c, rfl⟩
theorem opI_of {H : Type} {enc : TypeId × Value → H} {w : World} {base : Nat} {spare : Nat → Bool} {held : Bool} (fuel : Nat) (cs : List Value) (x : DataW H × List MemPlace)
    (h : DataW.trod enc Try.prog w base spare held fuel 33 cs = some x) : ∃ b, rOpI w cs b := by
  obtain ⟨xs, n, _, rfl, hl, hlen, hf⟩ := DataW.trod_struct Try.underlying33 h
  rw [cellsOpI] at hl
  obtain ⟨v0, v1, v2, v3, v4, v5, v6, v7, rfl⟩ := eight cs hl
  obtain ⟨y0, y1, y2, rfl⟩ := three xs hlen
  have h0 : DataW.trod enc Try.prog w base spare held n 3 (([v0, v1, v2, v3, v4, v5, v6, v7].drop 0).take (Try.prog.cellsOf 3)) = some y0 := hf 0 _ rfl
  have h1 : DataW.trod enc Try.prog w base spare held n 31 (([v0, v1, v2, v3, v4, v5, v6, v7].drop 1).take (Try.prog.cellsOf 31)) = some y1 := hf 1 _ rfl
  have h2 : DataW.trod enc Try.prog w base spare held n 3 (([v0, v1, v2, v3, v4, v5, v6, v7].drop 7).take (Try.prog.cellsOf 3)) = some y2 := hf 2 _ rfl
  simp only [cellsInt, cellsBatch] at h0 h1 h2
  obtain ⟨n0, e0, _, _⟩ := DataW.trod_int Try.underlying3 h0
  obtain ⟨n2, e2, _, _⟩ := DataW.trod_int Try.underlying3 h2
  obtain ⟨bt, e1⟩ := batch_of _ _ _ h1
  have e1 : [v1, v2, v3, v4, v5, v6] = [.int .i64 bt.base, .int .i64 bt.span, .int .i64 bt.prod, .int .i64 bt.epoch, .int .i64 bt.seq, .slice bt.ra bt.rn bt.rc] := e1
  simp at e0 e1 e2
  obtain ⟨a1, a2, a3, a4, a5, a6⟩ := e1
  exact ⟨⟨n0, bt, n2⟩, by show _ = _; rw [e0, a1, a2, a3, a4, a5, a6, e2]; rfl⟩
theorem opI_cells {w wr : World} {b off : Nat} {l : List OpI} (h : RowAt 8 rOpI w b off l) (hk : K0 w wr) (k : Nat) (hlt : k < l.length) :
    (∀ j v, (opI l[k])[j]? = some v → wr.cell? ⟨b, off + k * 8 + j, none⟩ = some v) ∧ b < wr.heap.size := by
  obtain ⟨cs, hc, hj, hr⟩ := h k hlt
  have hr : cs = (opI l[k]).toList := hr
  subst hr
  have hb : b < w.heap.size := World.block_lt_of_cell? w _ (hj 0 (by omega))
  refine ⟨fun j v e => hk.cell' (v := v) ?_ (fun e => e), Nat.lt_of_lt_of_le hb hk.size⟩
  have hjl : j < 8 := by
    have := (Array.getElem?_eq_some_iff.1 e).1
    exact this
  rw [hj j hjl]
  simpa using e
section
variable {w0 w w1 w2 : World} {F F' G : Nat → Prop} {pb : Nat} {M : List (Int × HeardC)}
theorem PF.sub (h : PF w0 w G pb M) (hs : ∀ k, F k → G k) : PF w0 w F pb M := by
  obtain ⟨mb, L, h, h1, h2, h3, h4⟩ := h
  exact ⟨mb, L, h, fun e => h1 (hs _ e), fun e => h2 (hs _ e), fun t p e1 e2 => h3 t p e1 (hs _ e2), fun k e => h4 k (hs k e)⟩
theorem PF.beside (h : PF w0 w1 F pb M) (hk : Keeps F w1 w2) (hG : ∀ k, F' k → F k ∨ w1.heap.size ≤ k) : PF w0 w2 F' pb M :=
  ((h.more (G := fun k => F k ∨ w1.heap.size ≤ k) (fun k e => e)).keepS hk (fun k _ e => .inl e)).sub hG
theorem PF.anew (h : PSt w1 w2 pb M) (hk : K0 w0 w1) (hF : ∀ k, F k → k < w1.heap.size ∧ w0.heap.size ≤ k) : PF w0 w2 F pb M := by
  obtain ⟨mb, L, h⟩ := h
  have hn := h.new
  have hs := hk.size
  refine ⟨mb, L, ⟨K0.tr hk h.k0, h.blk, h.core, h.map, h.her, h.apart, h.ne, ⟨by omega, by omega⟩, fun t p e => ?_, h.keys⟩, fun e => ?_, fun e => ?_, fun t p e e2 => ?_, fun k e => (hF k e).2⟩
  · have := h.fnew t p e
    exact ⟨by omega, this.2⟩
  · have := hF _ e; omega
  · have := hF _ e; omega
  · have := hF _ e2
    have := (h.fnew t p e).1
    omega
end
/-- The program's producers and the document's, side by side. -/
structure ISt (w wr : World) (pb b : Nat) (F : Nat → Prop) (M R : List (Int × HeardC)) (k : Nat) : Prop where
  pf : PF w wr F pb M
  rp : RPst wr F b R
  fn : ∀ j, F j → w.heap.size ≤ j
  sim : SimI M R
  wf : WfR M
  len : R.length ≤ k
section
variable {w wr wx w1 w2 : World} {pb b : Nat} {F : Nat → Prop} {M R : List (Int × HeardC)} {k : Nat}
theorem ISt.keep (h : ISt w wr pb b F M R k) (hk : K0 wr wx) : ISt w wx pb b F M R k := ⟨h.pf.keep hk, h.rp.keep hk (fun _ _ e => e), h.fn, h.sim, h.wf, h.len⟩
theorem ISt.wfR (h : ISt w wr pb b F M R k) : WfR R := h.wf.look h.sim.look
theorem ISt.next (h : ISt w wr pb b F M R k) : ISt w wr pb b F M R (k + 1) := ⟨h.pf, h.rp, h.fn, h.sim, h.wf, by have := h.len; omega⟩
theorem ISt.k0 (h : ISt w wr pb b F M R k) : K0 w wr := h.pf.k0
end
def SRelI (w : World) (b n : Nat) (i pv : Value) (wr : World) : Prop :=
  ∃ (k pb : Nat) (F : Nat → Prop) (M R : List (Int × HeardC)), i = .int .i64 k ∧ k ≤ n ∧ k ≤ 80 ∧ pv = .pointer (some ⟨pb, 0, none⟩) ∧ ISt w wr pb b F M R k
/-- The box of one call. -/
def BoxI (wr wx : World) (o : OpI) : Prop := wx.heap[wr.heap.size]? = some (.cells (opI o) 33 (0, 0))
theorem BoxI.keep {wr wx wy : World} {o : OpI} {S : Nat → Prop} (h : BoxI wr wx o) (hk : Keeps S wx wy) (hS : ¬ S wr.heap.size) : BoxI wr wy o := (hk.block _ (block_lt h) hS).trans h
structure BoxIC (wr wx : World) (o : OpI) : Prop where
  c1 : wx.cell? ⟨wr.heap.size, 1, none⟩ = some (.int .i64 o.b.base)
  c2 : wx.cell? ⟨wr.heap.size, 2, none⟩ = some (.int .i64 o.b.span)
  c3 : wx.cell? ⟨wr.heap.size, 3, none⟩ = some (.int .i64 o.b.prod)
  c4 : wx.cell? ⟨wr.heap.size, 4, none⟩ = some (.int .i64 o.b.epoch)
  c5 : wx.cell? ⟨wr.heap.size, 5, none⟩ = some (.int .i64 o.b.seq)
  c6 : wx.cell? ⟨wr.heap.size, 6, none⟩ = some (.slice o.b.ra o.b.rn o.b.rc)
  c7 : wx.cell? ⟨wr.heap.size, 7, none⟩ = some (.int .i64 o.n)
  lt : wr.heap.size < wx.heap.size
theorem BoxI.cells {wr wx : World} {o : OpI} (h : BoxI wr wx o) : BoxIC wr wx o := ⟨block_cell h 1, block_cell h 2, block_cell h 3, block_cell h 4, block_cell h 5, block_cell h 6, block_cell h 7, block_lt h⟩
set_option maxRecDepth 100000 in
set_option maxHeartbeats 16000000 in
theorem scripts_any (w : World) (a : Option Addr) (c : Nat) (l : List OpI) (h : SlAt 8 rOpI w a c l) : Calls Try.prog 3 #[.slice a l.length c] w fun e w' => Same w e (.bool true) w' := by
  have hm := h.len
  have HH := Lib.hid h
  clear h
  go_enter Try.func3, Try.ntmps3
  go_wp2_with fail
  refine (pnew_any w).mono ?_
  rintro e w1 ⟨pb, rfl, hst⟩
  have H0 : Hid (∃ b, b = w1.heap.size ∧ ISt w (w1.alloc (.cells #[.slice none 0 0] 28)) pb b (fun k => k = b) [] [] 0) := by
    refine ⟨_, rfl, ((PF.of hst).more (fun k e => .inr (by rw [e]; exact Nat.le_refl _))).keep ((Keeps.refl _ _).alloc _), newRP w1, fun j e => ?_, SimI.nil, WfR.nil, Nat.le_refl _⟩
    rw [e]
    exact hst.k0.size
  obtain ⟨b, hb, hT⟩ := H0.out
  have HB := Lib.hid hb
  have HT0 := Lib.hid hT
  clear hst H0 hb hT
  go_wp2_with fail
  rw [← HB.out]
  go_loopw [5, 3] (SRelI w b l.length) (fun i _ _ => l.length - (intOf i).toNat)
  case atStart => exact ⟨0, _, _, _, _, rfl, Nat.zero_le _, by omega, rfl, HT0.out⟩
  case round =>
    obtain ⟨k, pb, F, M, R, rfl, hk, hk80, rfl, hT⟩ := hrel
    have HT := Lib.hid hT
    clear hT
    by_cases hlt : k < l.length ∧ k < 80
    · obtain ⟨h1, h2⟩ := hlt
      obtain ⟨g, off, rfl, hrow⟩ := HH.out.row h1
      obtain ⟨hcs, hgl⟩ := opI_cells hrow HT.out.k0 k h1
      generalize l[k] = o at hcs
      have c0 : wr.cell? ⟨g, off + k * 8, none⟩ = some (.int .i64 o.doo) := hcs 0 _ rfl
      have c1 : wr.cell? ⟨g, off + k * 8 + 1, none⟩ = some (.int .i64 o.b.base) := hcs 1 _ rfl
      have c2 : wr.cell? ⟨g, off + k * 8 + 2, none⟩ = some (.int .i64 o.b.span) := hcs 2 _ rfl
      have c3 : wr.cell? ⟨g, off + k * 8 + 3, none⟩ = some (.int .i64 o.b.prod) := hcs 3 _ rfl
      have c4 : wr.cell? ⟨g, off + k * 8 + 4, none⟩ = some (.int .i64 o.b.epoch) := hcs 4 _ rfl
      have c5 : wr.cell? ⟨g, off + k * 8 + 5, none⟩ = some (.int .i64 o.b.seq) := hcs 5 _ rfl
      have c6 : wr.cell? ⟨g, off + k * 8 + 6, none⟩ = some (.slice o.b.ra o.b.rn o.b.rc) := hcs 6 _ rfl
      have c7 : wr.cell? ⟨g, off + k * 8 + 7, none⟩ = some (.int .i64 o.n) := hcs 7 _ rfl
      clear hcs hrow
      have HS : Hid (ISt w (wr.alloc (.cells #[.int .i64 o.doo, .int .i64 o.b.base, .int .i64 o.b.span, .int .i64 o.b.prod, .int .i64 o.b.epoch, .int .i64 o.b.seq, .slice o.b.ra o.b.rn o.b.rc, .int .i64 o.n] 33)) pb b F M R k) := HT.out.keep ((Keeps.refl _ _).alloc _)
      have HX : Hid (BoxI wr (wr.alloc (.cells #[.int .i64 o.doo, .int .i64 o.b.base, .int .i64 o.b.span, .int .i64 o.b.prod, .int .i64 o.b.epoch, .int .i64 o.b.seq, .slice o.b.ra o.b.rn o.b.rc, .int .i64 o.n] 33)) o) := heap_new _ _ _ rfl
      have HNX : Hid (¬ F wr.heap.size) := fun e => by have := HT.out.rp.lt _ e; omega
      have HPN : Hid (∀ j, w.heap.size ≤ j ∧ ¬ F j → True) := fun _ _ => trivial
      have i0 : (0 : Int) ≤ k := by omega
      have i1 : (k : Int) < l.length := by omega
      have i2 : (k : Int) < 80 := by omega
      by_cases d0 : o.doo = 0
      · have e0 : (o.doo == 0) = true := by rw [d0]; rfl
        clear d0
        go_wp2_with fail
        refine (check_any HS.out.pf.st HS.out.wf.wfm o.b).mono ?_
        rintro e w4 ⟨rfl, hk4⟩
        have HS4 := Lib.hid (HS.out.keep hk4)
        obtain ⟨x1, x2, x3, x4, x5, x6, x7, x8⟩ := (HX.out.keep hk4 (fun e => e)).cells
        rw [HS.out.sim.check]
        clear hk4 c0 c1 c2 c3 c4 c5 c6 c7 hgl
        simp only [resV]
        go_wp2_with fail
        refine (rcheck_any o.b HS4.out.rp HS4.out.sim.ord.kd HS4.out.wfR.wfm).mono ?_
        rintro e w5 ⟨rfl, hk5⟩
        have HT2 := Lib.hid (HS4.out.keep hk5).next
        clear hk5 x1 x2 x3 x4 x5 x6 x7 x8
        simp only [resV]
        generalize (checkR R o.b).1 = y0
        generalize (checkR R o.b).2.1 = y1
        generalize (checkR R o.b).2.2 = y2
        have j0 : (y0 != y0) = false := by simp
        have j1 : (y1 != y1) = false := by simp
        have j2 : (y2 != y2) = false := by simp
        obtain ⟨mb9, L9, hpa⟩ := HT2.out.pf.st
        have HPA := Lib.hid hpa
        clear hpa
        go_wp2_with fail
        refine (print_any HPA.out HT2.out.sim HT2.out.wfR (by have := HT2.out.len; omega)).mono ?_
        rintro e w6 ⟨rfl, hk6⟩
        have HT6 := Lib.hid (HT2.out.keep hk6)
        clear hk6
        go_wp2_with fail
        refine (rprint_any HT6.out.rp HT6.out.wfR HT6.out.sim.ord (by have := HT6.out.len; omega)).mono ?_
        rintro e w7 ⟨rfl, hk7⟩
        have HT7 := Lib.hid (HT6.out.keep hk7)
        clear hk7
        generalize printI R = pr
        go_wp2
        go_roundw
        case rel => exact ⟨k + 1, _, _, _, _, by go_num, by omega, by omega, rfl, HT7.out⟩
        case measure => simp [intOf]; omega
      · have e0 : (o.doo == 0) = false := by simpa using d0
        by_cases d1 : o.doo = 1
        · have e1 : (o.doo == 1) = true := by rw [d1]; rfl
          clear d0 d1
          have HPG : Hid (PF w (wr.alloc (.cells #[.int .i64 o.doo, .int .i64 o.b.base, .int .i64 o.b.span, .int .i64 o.b.prod, .int .i64 o.b.epoch, .int .i64 o.b.seq, .slice o.b.ra o.b.rn o.b.rc, .int .i64 o.n] 33)) (fun j => F j ∨ j = wr.heap.size) pb M) := (HT.out.pf.more (fun j e => e.imp (fun e => e) (fun e => by rw [e]; exact Nat.le_refl _))).keep ((Keeps.refl _ _).alloc _)
          go_wp2_with fail
          refine (note_pf (M' := noteM M o.b) HPG.out (fun j e => e.elim (HS.out.rp.lt j) (fun e => by rw [e]; exact block_lt HX.out)) HS.out.wf.wfm o.b rfl).mono ?_
          rintro e w4 ⟨rfl, hp4, hk4⟩
          have HP4 := Lib.hid (hp4.sub (F := F) (fun j e => .inl e))
          have HR4 := Lib.hid (HS.out.rp.keep hk4 (fun j e e2 => e2.2 (.inl e)))
          obtain ⟨x1, x2, x3, x4, x5, x6, x7, x8⟩ := (HX.out.keep hk4 (fun e => e.2 (.inr rfl))).cells
          have HWK := Lib.hid hk4.size
          clear hp4 hk4 c0 c1 c2 c3 c4 c5 c6 c7 hgl
          go_wp2_with fail
          refine (rnote_any o.b HR4.out HS.out.sim.ord HS.out.wfR.wfm (by have := HS.out.len; omega)).mono ?_
          rintro e w5 ⟨rfl, F2, hr5, hF2, hk5⟩
          have HT2 : Hid (ISt w w5 pb b F2 (noteM M o.b) (noteS R o.b) (k + 1)) := by
            have hsm := HS.out.sim.note o.b
            refine ⟨HP4.out.beside hk5 hF2, hr5, fun j e => (hF2 j e).elim (HS.out.fn j) (fun e => Nat.le_trans HP4.out.k0.size e), hsm, HS.out.wf.note o.b, ?_⟩
            have h1 := noteM_len M o.b
            have h2 := hsm.len
            have h3 := HS.out.sim.len
            have h4 := HS.out.len
            omega
          clear hr5 hF2 hk5 x1 x2 x3 x4 x5 x6 x7 x8
          obtain ⟨mb9, L9, hpa⟩ := HT2.out.pf.st
          have HPA := Lib.hid hpa
          clear hpa
          go_wp2_with fail
          refine (print_any HPA.out HT2.out.sim HT2.out.wfR (by have := HT2.out.len; omega)).mono ?_
          rintro e w6 ⟨rfl, hk6⟩
          have HT6 := Lib.hid (HT2.out.keep hk6)
          clear hk6
          go_wp2_with fail
          refine (rprint_any HT6.out.rp HT6.out.wfR HT6.out.sim.ord (by have := HT6.out.len; omega)).mono ?_
          rintro e w7 ⟨rfl, hk7⟩
          have HT7 := Lib.hid (HT6.out.keep hk7)
          clear hk7
          generalize printI (noteS R o.b) = pr
          go_wp2
          go_roundw
          case rel => exact ⟨k + 1, _, _, _, _, by go_num, by omega, by omega, rfl, HT7.out⟩
          case measure => simp [intOf]; omega
        · have e1 : (o.doo == 1) = false := by simpa using d1
          by_cases d2 : o.doo = 2
          · have e2 : (o.doo == 2) = true := by rw [d2]; rfl
            clear d0 d1 d2
            have HEP : Hid (∀ wx, ISt w wx pb b F M R k → BoxI wr wx o → Calls Try.prog 14 #[.pointer (some ⟨pb, 0, none⟩), .int .i64 o.n] wx fun e w' => e = .returned (.int .i64 (oldH R o.n).epoch) ∧ w'.cell? ⟨wr.heap.size, 7, none⟩ = some (.int .i64 o.n) ∧ wr.heap.size < w'.heap.size ∧ ISt w w' pb b F M R k ∧ BoxI wr w' o) := by
              show ∀ _, _ → _ → _
              intro wx hi hb
              refine (epoch_st hi.pf.st o.n rfl).mono fun e w' hq => ?_
              obtain ⟨rfl, hk⟩ := hq
              have hb2 := hb.keep hk (fun e => e)
              exact ⟨by rw [hi.sim.old], block_cell hb2 7, block_lt hb2, hi.keep hk, hb2⟩
            have HRE : Hid (∀ wx, ISt w wx pb b F M R k → BoxI wr wx o → Calls Try.prog 15 #[.pointer (some ⟨b, 0, none⟩), .int .i64 o.n] wx fun e w' => e = .returned (.int .i64 (oldH R o.n).epoch) ∧ w'.cell? ⟨wr.heap.size, 7, none⟩ = some (.int .i64 o.n) ∧ wr.heap.size < w'.heap.size ∧ ISt w w' pb b F M R k ∧ BoxI wr w' o) := by
              show ∀ _, _ → _ → _
              intro wx hi hb
              refine (repoch_any o.n hi.rp hi.sim.ord.kd).mono fun e w' hq => ?_
              obtain ⟨rfl, rfl⟩ := hq
              exact ⟨rfl, block_cell hb 7, block_lt hb, hi, hb⟩
            go_wp2_with fail
            generalize hWB : wr.alloc (.cells #[.int .i64 o.doo, .int .i64 o.b.base, .int .i64 o.b.span, .int .i64 o.b.prod, .int .i64 o.b.epoch, .int .i64 o.b.seq, .slice o.b.ra o.b.rn o.b.rc, .int .i64 o.n] 33) = WB at HS HX ⊢
            have u7 : WB.cell? ⟨wr.heap.size, 7, none⟩ = some (.int .i64 o.n) := block_cell HX.out 7
            have ul := block_lt HX.out
            have y1 : WB.drew.cell? ⟨wr.heap.size, 7, none⟩ = some (.int .i64 o.n) := block_cell HX.out 7
            have y2 : wr.heap.size < WB.drew.heap.size := block_lt HX.out
            have y3 : ISt w WB.drew pb b F M R k := HS.out.keep (Keeps.refl _ _).drew
            have y4 : BoxI wr WB.drew o := HX.out
            clear hWB c0 c1 c2 c3 c4 c5 c6 c7 hgl
            go_region_held3 (fun w' : World => w'.cell? ⟨wr.heap.size, 7, none⟩ = some (.int .i64 o.n) ∧ wr.heap.size < w'.heap.size ∧ ISt w w' pb b F M R k ∧ BoxI wr w' o)
              (first | go_keep | (refine ⟨?_, ?_, ?_, ?_⟩ <;> assumption))
              (first | (go_at_call 14; go_split_ands; refine (HEP.out _ (by assumption) (by assumption)).mono ?_; rintro e w' ⟨rfl, q1, q2, q3, q4⟩) | (go_at_call 15; go_split_ands; refine (HRE.out _ (by assumption) (by assumption)).mono ?_; rintro e w' ⟨rfl, q1, q2, q3, q4⟩))
            go_split_ands
            have hfin : ISt w w' pb b F M R k := by assumption
            have HT2 := Lib.hid hfin.next
            clear hfin y1 y2 y3 y4 u7 ul
            generalize (oldH R o.n).epoch = y0
            have j0 : (y0 != y0) = false := by simp
            obtain ⟨mb9, L9, hpa⟩ := HT2.out.pf.st
            have HPA := Lib.hid hpa
            clear hpa
            go_wp2_with fail
            refine (print_any HPA.out HT2.out.sim HT2.out.wfR (by have := HT2.out.len; omega)).mono ?_
            rintro e w6 ⟨rfl, hk6⟩
            have HT6 := Lib.hid (HT2.out.keep hk6)
            clear hk6
            go_wp2_with fail
            refine (rprint_any HT6.out.rp HT6.out.wfR HT6.out.sim.ord (by have := HT6.out.len; omega)).mono ?_
            rintro e w7 ⟨rfl, hk7⟩
            have HT7 := Lib.hid (HT6.out.keep hk7)
            clear hk7
            generalize printI R = pr
            go_wp2
            go_roundw
            case rel => exact ⟨k + 1, _, _, _, _, by go_num, by omega, by omega, rfl, HT7.out⟩
            case measure => simp [intOf]; omega
          · have e2 : (o.doo == 2) = false := by simpa using d2
            clear d0 d1 d2
            obtain ⟨mb8, L8, hpa8⟩ := HS.out.pf.st
            have HPA8 := Lib.hid hpa8
            have HPS := Lib.hid (parse_printI HS.out.wfR HS.out.sim.ord (by have := HS.out.len; omega))
            have HPZ := Lib.hid (printI_size HS.out.wfR HS.out.sim.ord.kd (by have := HS.out.len; omega))
            clear hpa8
            go_wp2_with fail
            refine (print_any HPA8.out HS.out.sim HS.out.wfR (by have := HS.out.len; omega)).mono ?_
            rintro e w4 ⟨rfl, hk4⟩
            have HS4 := Lib.hid (HS.out.keep hk4)
            clear hk4 c0 c1 c2 c3 c4 c5 c6 c7 hgl HPA8
            go_wp2_with fail
            refine (parse_any (printI R) w4 (Nat.le_trans HPZ.out (by decide))).mono ?_
            intro e w5 hq
            rcases hq with ⟨hz, _⟩ | ⟨_, pb2, rfl, hst⟩
            · exact absurd HPS.out.1 hz
            have HT2 : Hid (ISt w w5 pb2 b F (R.map anewP) (R.map anewP) (k + 1)) := by
              obtain ⟨g1, g2, g3, g4, g5⟩ := parse_goodI HPS.out.1
              rw [g1] at hst
              rw [HPS.out.2] at g2 g3 hst
              have hcore : R.map coreI = (R.map anewP).map coreI := by
                rw [List.map_map]
                apply List.map_congr_left
                intro p hp
                exact (coreI_anew (HS.out.wfR.mem HS.out.sim.ord.kd p hp).2.ok).symm
              exact ⟨PF.anew hst HS4.out.k0 (fun j e => ⟨HS4.out.rp.lt j e, HS4.out.fn j e⟩), (HS4.out.rp.keep hst.k0 (fun _ _ e => e)).core hcore, HS4.out.fn, SimI.self g2, g3, by rw [List.length_map]; have := HS.out.len; omega⟩
            clear hst
            obtain ⟨mb9, L9, hpa⟩ := HT2.out.pf.st
            have HPA := Lib.hid hpa
            clear hpa
            go_wp2_with fail
            refine (print_any HPA.out HT2.out.sim HT2.out.wfR (by have := HT2.out.len; omega)).mono ?_
            rintro e w6 ⟨rfl, hk6⟩
            have HT6 := Lib.hid (HT2.out.keep hk6)
            clear hk6
            go_wp2_with fail
            refine (rprint_any HT6.out.rp HT6.out.wfR HT6.out.sim.ord (by have := HT6.out.len; omega)).mono ?_
            rintro e w7 ⟨rfl, hk7⟩
            have HT7 := Lib.hid (HT6.out.keep hk7)
            clear hk7
            generalize printI (R.map anewP) = pr
            go_wp2
            go_roundw
            case rel => exact ⟨k + 1, _, _, _, _, by go_num, by omega, by omega, rfl, HT7.out⟩
            case measure => simp [intOf]; omega
    · have HK := Lib.hid HT.out.k0
      by_cases h1 : k < l.length
      · have h2 : ¬ k < 80 := fun e => hlt ⟨h1, e⟩
        clear hlt
        go_wp2_with fail
        refine (live_any _).mono ?_
        rintro e w2 ⟨rfl, k2⟩
        have HK2 := Lib.hid k2
        clear k2
        go_wp2
        go_ret
        exact ⟨rfl, K0.tr HK.out HK2.out⟩
      · clear hlt
        go_wp2_with fail
        refine (live_any _).mono ?_
        rintro e w2 ⟨rfl, k2⟩
        have HK2 := Lib.hid k2
        clear k2
        go_wp2
        go_ret
        exact ⟨rfl, K0.tr HK.out HK2.out⟩
end Go.Proofs.Ytbjpifipjcfhkaa
