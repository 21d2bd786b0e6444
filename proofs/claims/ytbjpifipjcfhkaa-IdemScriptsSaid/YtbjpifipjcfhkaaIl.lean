/-
  Parse at live's text.
-/
import Derived.Test.YtbjpifipjcfhkaaIj
import Derived.Test.YtbjpifipjcfhkaaIk
namespace Go.Proofs.Ytbjpifipjcfhkaa
open Go.RowKit Fx

section
variable {w0 w w' : World} {pb mb : Nat} {M : List (Int × HeardC)} {L : List (Int × (Nat × HeardC))}
theorem PAt.base (h : PAt w0 w pb M mb L) {v : World} (hk : K0 v w0) : PAt v w pb M mb L :=
  ⟨K0.tr hk h.k0, h.blk, h.core, h.map, h.her, h.apart, h.ne, ⟨Nat.le_trans hk.size h.new.1, Nat.le_trans hk.size h.new.2⟩, fun s p e => ⟨Nat.le_trans hk.size (h.fnew s p e).1, (h.fnew s p e).2⟩, h.keys⟩
theorem PAt.keepS (h : PAt w0 w pb M mb L) {S : Nat → Prop} (hk : Keeps S w w') (hS : ∀ k, S k → w0.heap.size ≤ k ∧ k ≠ pb ∧ k ≠ mb ∧ ∀ s p, aget L s = some p → p.1 ≠ k) : PAt w0 w' pb M mb L :=
  ⟨h.k0.trans hk (fun k hk e => absurd (hS k e).1 (by omega)), (hk.block pb (block_lt h.blk) (fun e => (hS _ e).2.1 rfl)).trans h.blk, h.core, h.map.keep hk (fun e => (hS _ e).2.2.1 rfl),
    fun s p e => (hk.block _ (block_lt (h.her s p e)) (fun e2 => (hS _ e2).2.2.2 s p e rfl)).trans (h.her s p e), h.apart, h.ne, h.new, h.fnew, h.keys⟩
end
/-- The heard one behind j rounds. -/
def Hj : Nat → HeardC
  | 0 => newHd 0
  | 1 => addH (newHd 0) ⟨0, 40, 2⟩
  | _ + 2 => liveH
theorem Hj_ok : ∀ j, HOk (Hj j)
  | 0 => newHd_ok _
  | 1 => addH_ok (newHd_ok _) _
  | _ + 2 => liveH_ok
structure LSt (w : World) (rb pb mb : Nat) (k : Int) (M : List (Int × HeardC)) (wr : World) : Prop where
  rd : RdAt wr rb k
  at_ : ∃ L, PAt w wr pb M mb L
  ne : rb ≠ pb ∧ rb ≠ mb ∧ w.heap.size ≤ rb
theorem emptyL {w0 w : World} {pb mb : Nat} {L : List (Int × (Nat × HeardC))} (h : PAt w0 w pb [] mb L) : L = [] := by
  have := congrArg List.length h.core
  simp [amap] at this
  exact this
theorem LSt.num {w : World} {rb pb mb : Nat} {k k2 : Int} {w1 w2 : World} (h : LSt w rb pb mb k [] w1) (r : RdAt w2 rb k2) (hk : Keeps (fun b => b = rb) w1 w2) : LSt w rb pb mb k2 [] w2 := by
  obtain ⟨L, hp⟩ := h.at_
  have := emptyL hp
  subst this
  exact ⟨r, ⟨[], hp.keepS hk fun k e => by subst e; exact ⟨h.ne.2.2, h.ne.1, h.ne.2.1, fun _ _ e => by cases e⟩⟩, h.ne⟩
theorem LSt.keep {w : World} {rb pb mb : Nat} {k : Int} {M : List (Int × HeardC)} {w1 w2 : World} (h : LSt w rb pb mb k M w1) (hk : K0 w1 w2) : LSt w rb pb mb k M w2 := by
  obtain ⟨L, hp⟩ := h.at_
  exact ⟨(hk.block _ (block_lt h.rd) (fun e => e)).trans h.rd, ⟨L, hp.keep hk⟩, h.ne⟩
/-- A block that neither the reader nor the producers have has turned. -/
theorem LSt.far {w : World} {rb pb mb b : Nat} {k : Int} {w1 w2 : World} (h : LSt w rb pb mb k [] w1) (hk : Keeps (fun k => k = b) w1 w2) (h1 : b ≠ rb) (h2 : b ≠ pb) (h3 : b ≠ mb) (h4 : w.heap.size ≤ b) : LSt w rb pb mb k [] w2 := by
  obtain ⟨L, hp⟩ := h.at_
  have := emptyL hp
  subst this
  exact ⟨(hk.block _ (block_lt h.rd) (fun e => h1 e.symm)).trans h.rd, ⟨[], hp.keepS hk fun k e => by subst e; exact ⟨h4, h2, h3, fun _ _ e => by cases e⟩⟩, h.ne⟩
theorem PAt.put0 {w0 w : World} {pb mb : Nat} (h : PAt w0 w pb [] mb []) (s : Int) {b : Nat} {x : HeardC} (hf : HAt w b x) (hn : w0.heap.size ≤ b ∧ b ≠ pb ∧ b ≠ mb)
    {o : Obj} (hm : MapAt (.int .i64) (setObjAt w mb o) mb (aput (avals hptr []) s (hptr (b, x)))) : PAt w0 (setObjAt w mb o) pb [(s, x)] mb [(s, (b, x))] := by
  have hp : Keeps (fun k => k = mb) w (setObjAt w mb o) := Keeps.setObj (S := fun k => k = mb) (Keeps.refl _ _) (fun _ => rfl) _
  have hu : ∀ t p, aget [(s, (b, x))] t = some p → p = (b, x) := fun t p e => by
    simp only [aget] at e
    split at e
    · cases e; rfl
    · cases e
  refine ⟨h.k0.trans hp (fun k hk e => by have := h.new.2; omega), (hp.block _ (block_lt h.blk) h.ne).trans h.blk, rfl, hm, fun t p e2 => ?_, fun t1 t2 p q e1 e2 hne => ?_, h.ne, h.new, fun t p e2 => ?_, (h.keys.put s (b, x))⟩
  · rw [hu t p e2]
    exact (setObjAt_other _ _ hn.2.2).trans hf
  · simp only [aget] at e1 e2
    split at e1
    · split at e2
      · rename_i a1 a2; exact absurd (a1.symm.trans a2) hne
      · cases e2
    · cases e1
  · rw [hu t p e2]
    exact hn
theorem LSt.pcell {w : World} {rb pb mb : Nat} {k : Int} {M : List (Int × HeardC)} {w1 : World} (h : LSt w rb pb mb k M w1) : w1.cell? ⟨pb, 0, none⟩ = some (.map (some mb)) := by
  obtain ⟨L, hp⟩ := h.at_
  exact block_cell hp.blk 0
theorem LSt.map0 {w : World} {rb pb mb : Nat} {k : Int} {w1 : World} (h : LSt w rb pb mb k [] w1) : MapAt (.int .i64) w1 mb (avals hptr []) := by
  obtain ⟨L, hp⟩ := h.at_
  have := emptyL hp
  subst this
  exact hp.map
theorem LSt.put0 {w : World} {rb pb mb : Nat} {k : Int} {w1 : World} (h : LSt w rb pb mb k [] w1) (s : Int) {b : Nat} {x : HeardC} (hf : HAt w1 b x) (hn : w.heap.size ≤ b ∧ b ≠ pb ∧ b ≠ mb)
    {o : Obj} (hm : MapAt (.int .i64) (setObjAt w1 mb o) mb (aput (avals hptr []) s (hptr (b, x)))) : LSt w rb pb mb k [(s, x)] (setObjAt w1 mb o) := by
  obtain ⟨L, hp⟩ := h.at_
  have := emptyL hp
  subst this
  exact ⟨(setObjAt_other _ _ h.ne.2.1).trans h.rd, ⟨_, hp.put0 s hf hn hm⟩, h.ne⟩
theorem LSt.lts {w : World} {rb pb mb : Nat} {k : Int} {M : List (Int × HeardC)} {w1 : World} (h : LSt w rb pb mb k M w1) : rb < w1.heap.size ∧ pb < w1.heap.size ∧ mb < w1.heap.size ∧ w.heap.size ≤ w1.heap.size := by
  obtain ⟨L, hp⟩ := h.at_
  exact ⟨block_lt h.rd, block_lt hp.blk, hp.map.lt, hp.k0.size⟩
set_option maxRecDepth 100000 in
set_option maxHeartbeats 4000000 in
theorem parse_live (w : World) : Calls Try.prog 16 #[.string liveS] w fun e w' => ∃ pb, e = .returned (.tuple #[.pointer (some ⟨pb, 0, none⟩), .int .i64 0]) ∧ PSt w w' pb liveM := by
  have HR : Hid (RdAt (w.alloc (.cells #[.string liveS, .int .i64 0, .int .i64 0] 77)) w.heap.size 0) := heap_new _ _ _ rfl
  have HKA : Hid (K0 w (w.alloc (.cells #[.string liveS, .int .i64 0, .int .i64 0] 77))) := (Keeps.refl _ _).alloc _
  have hsz : liveS.size = 10 := by kernel_rfl
  have hz : (w.alloc (.cells #[.string liveS, .int .i64 0, .int .i64 0] 77)).heap.size = w.heap.size + 1 := by simp
  go_enter Try.func16, Try.ntmps16
  go_wp2_with fail
  refine (pnew_any _).mono ?_
  rintro e w1 ⟨pb, rfl, hp⟩
  obtain ⟨mb, L, hp⟩ := hp
  have S1 : Hid (LSt w w.heap.size pb mb 0 [] w1) := ⟨(hp.k0.block _ (block_lt HR.out) (fun e => e)).trans HR.out, ⟨L, hp.base HKA.out⟩, by have := hp.new.1; omega, by have := hp.new.2; omega, Nat.le_refl _⟩
  clear hp hz HR HKA
  go_wp2_with fail
  refine (num_0 S1.out.rd).mono ?_
  rintro e w2 ⟨rfl, r2, k2⟩
  have S2 := Lib.hid (S1.out.num r2 k2)
  clear r2 k2
  go_wp2
  go_loopw [6, 7] (fun id i wr => (id = .int .i64 (-1) ∧ i = .int .i64 1 ∧ LSt w w.heap.size pb mb 1 [] wr) ∨ (id = .int .i64 7 ∧ i = .int .i64 0 ∧ LSt w w.heap.size pb mb 10 liveM wr)) (fun _ i _ => (intOf i).toNat)
  case atStart => exact .inl ⟨rfl, rfl, S2.out⟩
  case round =>
    rcases hrel with ⟨rfl, rfl, hs⟩ | ⟨rfl, rfl, hs⟩
    · have c2 : wr.cell? ⟨w.heap.size, 2, none⟩ = some (.int .i64 0) := block_cell hs.rd 2
      have l2 := block_lt hs.rd
      have S3 := Lib.hid hs
      clear hs S1 S2
      go_wp2_with fail
      refine (num_1 S3.out.rd).mono ?_
      rintro e w3 ⟨rfl, r3, k3⟩
      have S4 := Lib.hid (S3.out.num r3 k3)
      clear r3 k3 c2 l2 S3
      go_wp2_with fail
      refine (num_2 S4.out.rd).mono ?_
      rintro e w4 ⟨rfl, r4, k4⟩
      have S5 := Lib.hid (S4.out.num r4 k4)
      clear r4 k4 S4
      go_wp2_with fail
      generalize hwx : w4.alloc _ = wx
      have hN : HAt wx w4.heap.size (newHd 0) := by rw [← hwx]; exact heap_new _ _ _ rfl
      have hk5 : K0 w4 wx := by rw [← hwx]; exact (Keeps.refl _ _).alloc _
      have S6 := Lib.hid (S5.out.keep hk5)
      have HN := Lib.hid hN
      have HL := Lib.hid S5.out.lts
      clear hk5 hN S5 hwx
      refine (num_3 S6.out.rd).mono ?_
      rintro e w6 ⟨rfl, r6, k6⟩
      have S7 := Lib.hid (S6.out.num r6 k6)
      have HN2 := Lib.hid ((k6.block _ (block_lt HN.out) (fun e => by have := HL.out.1; omega)).trans HN.out)
      clear r6 k6 S6 HN
      have HL : Hid (w.heap.size < w4.heap.size ∧ pb < w4.heap.size ∧ mb < w4.heap.size ∧ w.heap.size ≤ w4.heap.size) := HL
      generalize ehb : w4.heap.size = hb at HN2 HL ⊢
      clear ehb
      go_wp2
      go_loopw [9] (fun kv wq => ∃ j : Nat, kv = .int .i64 (2 - j) ∧ j ≤ 2 ∧ LSt w w.heap.size pb mb (4 + 3 * j) [] wq ∧ HAt wq hb (Hj j)) (fun kv _ => (intOf kv).toNat)
      case atStart => exact ⟨0, rfl, by omega, S7.out, HN2.out⟩
      case round =>
        obtain ⟨wo, rfl⟩ : ∃ wo : World, wo = wr := ⟨_, rfl⟩
        obtain ⟨j, rfl, hj, hs, hh⟩ := hrel
        have c2 : wo.cell? ⟨w.heap.size, 2, none⟩ = some (.int .i64 0) := block_cell hs.rd 2
        have l2 := block_lt hs.rd
        have SJ := Lib.hid hs
        have HJ := Lib.hid hh
        clear hs hh S7 HN2
        match j, hj with
        | 2, _ =>
          have d0 := SJ.out.pcell
          have ll := SJ.out.lts.2.1
          have HM2 := Lib.hid SJ.out.map0
          rw [show (2 - ((2 : Nat) : Int)) = 0 from rfl]
          go_wp2_with (at_mapUpdate; refine wpList_put (intKey Try.underlying3) rfl rfl Try.underlying56 rfl 7 rfl HM2.out (.pointer (some ⟨hb, 0, none⟩)) rfl ?_; intro ob hM)
          go_roundw
          case rel => exact .inr ⟨rfl, rfl, SJ.out.put0 7 HJ.out (by have := HL.out; omega) hM⟩
          case measure => simp [intOf]
        | 0, _ =>
          go_wp2_with fail
          refine (num_4 SJ.out.rd).mono ?_
          rintro e w8 ⟨rfl, r8, k8⟩
          have S8 := Lib.hid (SJ.out.num r8 k8)
          have H8 := Lib.hid ((k8.block _ (block_lt HJ.out) (fun e => by have := HL.out.1; omega)).trans HJ.out)
          clear r8 k8 SJ HJ c2 l2
          go_wp2_with fail
          generalize hwa : w8.alloc _ = wa
          have hX : wa.heap[w8.heap.size]? = some (.cells #[.int .i64 0, .int .i64 0, .int .i64 0] 62 (0, 0)) := by rw [← hwa]; exact heap_new _ _ _ rfl
          have hka : K0 w8 wa := by rw [← hwa]; exact (Keeps.refl _ _).alloc _
          have S9 := Lib.hid (S8.out.keep hka)
          have H9 := Lib.hid ((hka.block _ (block_lt H8.out) (fun e => e)).trans H8.out)
          have HX0 : Hid (w.heap.size < w8.heap.size ∧ pb < w8.heap.size ∧ mb < w8.heap.size ∧ w.heap.size ≤ w8.heap.size ∧ hb < w8.heap.size) := by
            have a := S8.out.lts
            have b := block_lt H8.out
            exact ⟨a.1, a.2.1, a.2.2.1, a.2.2.2, b⟩
          clear hka hwa S8 H8
          generalize w8.heap.size = xb at hX HX0 ⊢
          refine (num_5 S9.out.rd).mono ?_
          rintro e w9 ⟨rfl, r9, k9⟩
          have S10 := Lib.hid (S9.out.num r9 k9)
          have H10 := Lib.hid ((k9.block _ (block_lt H9.out) (fun e => by have := HL.out.1; omega)).trans H9.out)
          have hX9 := (k9.block _ (block_lt hX) (fun e => by have := HX0.out.1; omega)).trans hX
          have x1 : w9.cell? ⟨xb, 1, none⟩ = some (.int .i64 0) := block_cell hX9 1
          have lx := block_lt hX9
          have f1 := block_free hX9 1
          have HX := Lib.hid hX9
          clear hX hX9 r9 k9 S9 H9
          go_wp2_with fail
          generalize hwb : w9.setCell _ _ = wb
          have hXb : wb.heap[xb]? = some (.cells #[.int .i64 0, .int .i64 40, .int .i64 0] 62 (0, 0)) := by rw [← hwb]; exact setCell_block HX.out 1 _
          have hkb : Keeps (fun k => k = xb) w9 wb := by rw [← hwb]; exact (Keeps.refl _ _).setC _ _ (fun _ => rfl)
          have S11 := Lib.hid (S10.out.far hkb (by have := HX0.out; omega) (by have := HX0.out; omega) (by have := HX0.out; omega) (by have := HX0.out; omega))
          have H11 := Lib.hid ((hkb.block _ (block_lt H10.out) (fun e => by have := HX0.out; omega)).trans H10.out)
          clear hkb hwb S10 H10 x1 lx f1 HX
          refine (num_6 S11.out.rd).mono ?_
          rintro e w10 ⟨rfl, r10, k10⟩
          have S12 := Lib.hid (S11.out.num r10 k10)
          have H12 := Lib.hid ((k10.block _ (block_lt H11.out) (fun e => by have := HL.out.1; omega)).trans H11.out)
          have hX10 := (k10.block _ (block_lt hXb) (fun e => by have := HX0.out.1; omega)).trans hXb
          have x2 : w10.cell? ⟨xb, 2, none⟩ = some (.int .i64 0) := block_cell hX10 2
          have lx := block_lt hX10
          have f2 := block_free hX10 2
          have hXc := setCell_block hX10 2 (.int .i64 2)
          have hkc : Keeps (fun k => k = xb) w10 (w10.setCell ⟨xb, 2, none⟩ (.int .i64 2)) := (Keeps.refl _ _).setC _ _ (fun _ => rfl)
          have S13 := Lib.hid (S12.out.far hkc (by have := HX0.out; omega) (by have := HX0.out; omega) (by have := HX0.out; omega) (by have := HX0.out; omega))
          have H13 := Lib.hid ((hkc.block _ (block_lt H12.out) (fun e => by have := HX0.out; omega)).trans H12.out)
          have z0 : (w10.setCell ⟨xb, 2, none⟩ (.int .i64 2)).cell? ⟨xb, 0, none⟩ = some (.int .i64 0) := block_cell hXc 0
          have z1 : (w10.setCell ⟨xb, 2, none⟩ (.int .i64 2)).cell? ⟨xb, 1, none⟩ = some (.int .i64 40) := block_cell hXc 1
          have z2 : (w10.setCell ⟨xb, 2, none⟩ (.int .i64 2)).cell? ⟨xb, 2, none⟩ = some (.int .i64 2) := block_cell hXc 2
          have lz := block_lt hXc
          clear hkc hX10 hXb r10 k10 S11 H11 S12 H12 hXc
          go_wp2_with fail
          refine (add_any H13.out (Hj_ok 0) ⟨0, 40, 2⟩).mono ?_
          rintro e w11 ⟨rfl, h11, k11⟩
          have S14 := Lib.hid (S13.out.far k11 (by have := HL.out; omega) (by have := HL.out; omega) (by have := HL.out; omega) (by have := HL.out; omega))
          have H14 := Lib.hid h11
          clear k11 h11 S13 H13 x2 f2 lx z0 z1 z2 lz
          go_wp2
          go_roundw
          case rel => exact ⟨1, rfl, by omega, S14.out, H14.out⟩
          case measure => simp [intOf]
        | 1, _ =>
          go_wp2_with fail
          refine (num_7 SJ.out.rd).mono ?_
          rintro e w8 ⟨rfl, r8, k8⟩
          have S8 := Lib.hid (SJ.out.num r8 k8)
          have H8 := Lib.hid ((k8.block _ (block_lt HJ.out) (fun e => by have := HL.out.1; omega)).trans HJ.out)
          clear r8 k8 SJ HJ c2 l2
          go_wp2_with fail
          generalize hwa : w8.alloc _ = wa
          have hX : wa.heap[w8.heap.size]? = some (.cells #[.int .i64 2, .int .i64 0, .int .i64 0] 62 (0, 0)) := by rw [← hwa]; exact heap_new _ _ _ rfl
          have hka : K0 w8 wa := by rw [← hwa]; exact (Keeps.refl _ _).alloc _
          have S9 := Lib.hid (S8.out.keep hka)
          have H9 := Lib.hid ((hka.block _ (block_lt H8.out) (fun e => e)).trans H8.out)
          have HX0 : Hid (w.heap.size < w8.heap.size ∧ pb < w8.heap.size ∧ mb < w8.heap.size ∧ w.heap.size ≤ w8.heap.size ∧ hb < w8.heap.size) := by
            have a := S8.out.lts
            have b := block_lt H8.out
            exact ⟨a.1, a.2.1, a.2.2.1, a.2.2.2, b⟩
          clear hka hwa S8 H8
          generalize w8.heap.size = xb at hX HX0 ⊢
          refine (num_8 S9.out.rd).mono ?_
          rintro e w9 ⟨rfl, r9, k9⟩
          have S10 := Lib.hid (S9.out.num r9 k9)
          have H10 := Lib.hid ((k9.block _ (block_lt H9.out) (fun e => by have := HL.out.1; omega)).trans H9.out)
          have hX9 := (k9.block _ (block_lt hX) (fun e => by have := HX0.out.1; omega)).trans hX
          have x1 : w9.cell? ⟨xb, 1, none⟩ = some (.int .i64 0) := block_cell hX9 1
          have lx := block_lt hX9
          have f1 := block_free hX9 1
          have HX := Lib.hid hX9
          clear hX hX9 r9 k9 S9 H9
          go_wp2_with fail
          generalize hwb : w9.setCell _ _ = wb
          have hXb : wb.heap[xb]? = some (.cells #[.int .i64 2, .int .i64 42, .int .i64 0] 62 (0, 0)) := by rw [← hwb]; exact setCell_block HX.out 1 _
          have hkb : Keeps (fun k => k = xb) w9 wb := by rw [← hwb]; exact (Keeps.refl _ _).setC _ _ (fun _ => rfl)
          have S11 := Lib.hid (S10.out.far hkb (by have := HX0.out; omega) (by have := HX0.out; omega) (by have := HX0.out; omega) (by have := HX0.out; omega))
          have H11 := Lib.hid ((hkb.block _ (block_lt H10.out) (fun e => by have := HX0.out; omega)).trans H10.out)
          clear hkb hwb S10 H10 x1 lx f1 HX
          refine (num_9 S11.out.rd).mono ?_
          rintro e w10 ⟨rfl, r10, k10⟩
          have S12 := Lib.hid (S11.out.num r10 k10)
          have H12 := Lib.hid ((k10.block _ (block_lt H11.out) (fun e => by have := HL.out.1; omega)).trans H11.out)
          have hX10 := (k10.block _ (block_lt hXb) (fun e => by have := HX0.out.1; omega)).trans hXb
          have x2 : w10.cell? ⟨xb, 2, none⟩ = some (.int .i64 0) := block_cell hX10 2
          have lx := block_lt hX10
          have f2 := block_free hX10 2
          have hXc := setCell_block hX10 2 (.int .i64 1)
          have hkc : Keeps (fun k => k = xb) w10 (w10.setCell ⟨xb, 2, none⟩ (.int .i64 1)) := (Keeps.refl _ _).setC _ _ (fun _ => rfl)
          have S13 := Lib.hid (S12.out.far hkc (by have := HX0.out; omega) (by have := HX0.out; omega) (by have := HX0.out; omega) (by have := HX0.out; omega))
          have H13 := Lib.hid ((hkc.block _ (block_lt H12.out) (fun e => by have := HX0.out; omega)).trans H12.out)
          have z0 : (w10.setCell ⟨xb, 2, none⟩ (.int .i64 1)).cell? ⟨xb, 0, none⟩ = some (.int .i64 2) := block_cell hXc 0
          have z1 : (w10.setCell ⟨xb, 2, none⟩ (.int .i64 1)).cell? ⟨xb, 1, none⟩ = some (.int .i64 42) := block_cell hXc 1
          have z2 : (w10.setCell ⟨xb, 2, none⟩ (.int .i64 1)).cell? ⟨xb, 2, none⟩ = some (.int .i64 1) := block_cell hXc 2
          have lz := block_lt hXc
          clear hkc hX10 hXb r10 k10 S11 H11 S12 H12 hXc
          go_wp2_with fail
          refine (add_any H13.out (Hj_ok 1) ⟨2, 42, 1⟩).mono ?_
          rintro e w11 ⟨rfl, h11, k11⟩
          have S14 := Lib.hid (S13.out.far k11 (by have := HL.out; omega) (by have := HL.out; omega) (by have := HL.out; omega) (by have := HL.out; omega))
          have H14 := Lib.hid h11
          clear k11 h11 S13 H13 x2 f2 lx z0 z1 z2 lz
          go_wp2
          go_roundw
          case rel => exact ⟨2, rfl, by omega, S14.out, H14.out⟩
          case measure => simp [intOf]
    · have c1 : wr.cell? ⟨w.heap.size, 1, none⟩ = some (.int .i64 10) := block_cell hs.rd 1
      have c2 : wr.cell? ⟨w.heap.size, 2, none⟩ = some (.int .i64 0) := block_cell hs.rd 2
      have l2 := block_lt hs.rd
      have S3 := Lib.hid hs
      clear hs S1 S2
      go_wp2
      go_ret2
      exact ⟨pb, rfl, mb, S3.out.at_⟩
end Go.Proofs.Ytbjpifipjcfhkaa
