/-
  The document's Note.
-/
import Derived.Test.YtbjpifipjcfhkaaJc
import Derived.Deep.DeepCutAuto
import Derived.Deep.RegionHeld3
namespace Go.Proofs.Ytbjpifipjcfhkaa
open Go.RowKit Fx

section
variable {w : World} {F : Nat → Prop} {bb : Nat} {R : List (Int × HeardC)}
set_option maxRecDepth 100000 in
set_option maxHeartbeats 4000000 in
theorem rnote_bad (b : BatchC) (h : RPst w F bb R) (hb : mayB b = false) : Calls Try.prog 13 #[.pointer (some ⟨bb, 0, none⟩), .agg #[.int .i64 b.base, .int .i64 b.span, .int .i64 b.prod, .int .i64 b.epoch, .int .i64 b.seq, .slice b.ra b.rn b.rc]] w fun e w' => Same w e (.tuple #[]) w' := by
  have hB : (w.alloc (.cells (bcells b) 31)).heap[w.heap.size]? = some (.cells (bcells b) 31 (0, 0)) := heap_new _ _ _ rfl
  have hK : K0 w (w.alloc (.cells (bcells b) 31)) := (Keeps.refl _ _).alloc _
  have HH := Lib.hid (h.keep hK (fun _ _ e => e))
  unfold bcells at hB hK HH
  have HB := Lib.hid hB
  have HK := Lib.hid hK
  have HM : Hid (∀ wx, Calls Try.prog 28 #[.agg #[.int .i64 b.base, .int .i64 b.span, .int .i64 b.prod, .int .i64 b.epoch, .int .i64 b.seq, .slice b.ra b.rn b.rc]] wx fun e w' => Same wx e (.bool false) w') := fun wx => by rw [← hb]; exact numbers_any b wx
  clear hB hK h
  go_enter Try.func13, Try.ntmps13
  go_upto_region 1 with fail
  generalize hWB : w.alloc (.cells #[.int .i64 b.base, .int .i64 b.span, .int .i64 b.prod, .int .i64 b.epoch, .int .i64 b.seq, .slice b.ra b.rn b.rc] 31) = WB at HH HB HK ⊢
  have p0 : WB.cell? ⟨w.heap.size, 0, none⟩ = some (.int .i64 b.base) := block_cell HB.out 0
  have p1 : WB.cell? ⟨w.heap.size, 1, none⟩ = some (.int .i64 b.span) := block_cell HB.out 1
  have p2 : WB.cell? ⟨w.heap.size, 2, none⟩ = some (.int .i64 b.prod) := block_cell HB.out 2
  have p3 : WB.cell? ⟨w.heap.size, 3, none⟩ = some (.int .i64 b.epoch) := block_cell HB.out 3
  have p4 : WB.cell? ⟨w.heap.size, 4, none⟩ = some (.int .i64 b.seq) := block_cell HB.out 4
  have p5 : WB.cell? ⟨w.heap.size, 5, none⟩ = some (.slice b.ra b.rn b.rc) := block_cell HB.out 5
  have pl : w.heap.size < WB.heap.size := block_lt HB.out
  first | (go_region_with (go_at_call 28; refine (HM.out _).mono ?_; rintro e w' ⟨rfl, kk⟩)) | fail
  all_goals
    go_wp2
    refine bodyPost_ret (results_none rfl _ _ _) rfl ?_
    exact ⟨rfl, K0.tr HK.out.drew kk⟩
set_option maxRecDepth 100000 in
set_option maxHeartbeats 4000000 in
theorem rnote_old (b : BatchC) (h : RPst w F bb R) (hd : KD R) (hb : mayB b = true) (hE : b.epoch < (oldH R b.prod).epoch) : Calls Try.prog 13 #[.pointer (some ⟨bb, 0, none⟩), .agg #[.int .i64 b.base, .int .i64 b.span, .int .i64 b.prod, .int .i64 b.epoch, .int .i64 b.seq, .slice b.ra b.rn b.rc]] w fun e w' => Same w e (.tuple #[]) w' := by
  have hB : (w.alloc (.cells (bcells b) 31)).heap[w.heap.size]? = some (.cells (bcells b) 31 (0, 0)) := heap_new _ _ _ rfl
  have hK : K0 w (w.alloc (.cells (bcells b) 31)) := (Keeps.refl _ _).alloc _
  have HH := Lib.hid (h.keep hK (fun _ _ e => e))
  unfold bcells at hB hK HH
  have HB := Lib.hid hB
  have HK := Lib.hid hK
  have HM : Hid (∀ wx, Calls Try.prog 28 #[.agg #[.int .i64 b.base, .int .i64 b.span, .int .i64 b.prod, .int .i64 b.epoch, .int .i64 b.seq, .slice b.ra b.rn b.rc]] wx fun e w' => Same wx e (.bool true) w') := fun wx => by rw [← hb]; exact numbers_any b wx
  clear hB hK h
  go_enter Try.func13, Try.ntmps13
  go_upto_region 1 with fail
  generalize hWB : w.alloc (.cells #[.int .i64 b.base, .int .i64 b.span, .int .i64 b.prod, .int .i64 b.epoch, .int .i64 b.seq, .slice b.ra b.rn b.rc] 31) = WB at HH HB HK ⊢
  have HE : Hid (∀ wx, K0 WB wx → Calls Try.prog 15 #[.pointer (some ⟨bb, 0, none⟩), .int .i64 b.prod] wx fun e w' => e = .returned (.int .i64 (oldH R b.prod).epoch) ∧ w' = wx) := fun wx hk => repoch_any b.prod (HH.out.keep hk (fun _ _ e => e)) hd
  have hkd : K0 WB WB.drew := (Keeps.refl _ _).drew
  have bd : WB.drew.heap[w.heap.size]? = some (.cells #[.int .i64 b.base, .int .i64 b.span, .int .i64 b.prod, .int .i64 b.epoch, .int .i64 b.seq, .slice b.ra b.rn b.rc] 31 (0, 0)) := HB.out
  have p0 : WB.drew.cell? ⟨w.heap.size, 0, none⟩ = some (.int .i64 b.base) := block_cell bd 0
  have p1 : WB.drew.cell? ⟨w.heap.size, 1, none⟩ = some (.int .i64 b.span) := block_cell bd 1
  have p2 : WB.drew.cell? ⟨w.heap.size, 2, none⟩ = some (.int .i64 b.prod) := block_cell bd 2
  have p3 : WB.drew.cell? ⟨w.heap.size, 3, none⟩ = some (.int .i64 b.epoch) := block_cell bd 3
  have p4 : WB.drew.cell? ⟨w.heap.size, 4, none⟩ = some (.int .i64 b.seq) := block_cell bd 4
  have p5 : WB.drew.cell? ⟨w.heap.size, 5, none⟩ = some (.slice b.ra b.rn b.rc) := block_cell bd 5
  have pl : w.heap.size < WB.drew.heap.size := block_lt bd
  clear bd
  go_region_held3 (fun w' => w'.cell? ⟨w.heap.size, 0, none⟩ = some (.int .i64 b.base) ∧ w'.cell? ⟨w.heap.size, 1, none⟩ = some (.int .i64 b.span) ∧ w'.cell? ⟨w.heap.size, 2, none⟩ = some (.int .i64 b.prod) ∧ w'.cell? ⟨w.heap.size, 3, none⟩ = some (.int .i64 b.epoch) ∧ w'.cell? ⟨w.heap.size, 4, none⟩ = some (.int .i64 b.seq) ∧ w'.cell? ⟨w.heap.size, 5, none⟩ = some (.slice b.ra b.rn b.rc) ∧ K0 WB w')
    (first | go_keep | (go_split_ands; refine ⟨?_, ?_, ?_, ?_, ?_, ?_, ?_⟩ <;> first | assumption | exact Keeps.cell' (by assumption) (by assumption) (fun e => e) | exact K0.tr (by assumption) (by assumption)))
    (first | (go_at_call 28; refine (HM.out _).mono ?_; rintro e w' ⟨he, hk⟩; subst he) | (go_at_call 15; go_split_ands; refine (HE.out _ (by assumption)).mono ?_; rintro e w' ⟨he, hw⟩; subst he; subst hw))
  go_split_ands
  have kk : K0 WB w' := by assumption
  have HK1 := Lib.hid (K0.tr HK.out kk)
  clear kk
  go_wp2
  refine bodyPost_ret (results_none rfl _ _ _) rfl ?_
  exact ⟨rfl, HK1.out⟩
theorem flat_set3 (L : List OneI) (i : Nat) (hi : i < L.length) (x : OneI) : (((L.flatMap encI).set (i * 3) (.int .i64 x.id)).set (i * 3 + 1) (.int .i64 x.ep)).set (i * 3 + 2) x.lv = (L.set i x).flatMap encI := by
  induction L generalizing i with
  | nil => exact absurd hi (Nat.not_lt_zero _)
  | cons y L ih =>
    cases i with
    | zero => rfl
    | succ i =>
      have := ih i (by simpa using hi)
      rw [List.set_cons_succ, List.flatMap_cons, List.flatMap_cons, ← this]
      rw [show (i + 1) * 3 = i * 3 + 3 by omega, show i * 3 + 3 + 1 = i * 3 + 1 + 3 by omega, show i * 3 + 3 + 2 = i * 3 + 2 + 3 by omega]
      rfl
theorem set_core {L : List OneI} {R : List (Int × HeardC)} (hc : L.map coreO = R.map coreI) (i : Nat) {x : OneI} {p : Int × HeardC} (hx : coreO x = coreI p) : (L.set i x).map coreO = (R.set i p).map coreI := by
  rw [List.map_set, List.map_set, hc, hx]
theorem RPAt.noted {w2 w5 : World} {F : Nat → Prop} {bb r cap i : Nat} {L : List OneI} {R : List (Int × HeardC)} {nlv : Value} {H' : HeardC} (h : RPAt w2 F bb (.slice (some ⟨r, 0, none⟩) L.length cap) L) (hc : L.map coreO = R.map coreI) (hd : KD R) (hi : i < R.length) (hk : K0 w2 w5)
    (hw : WinE w5 (fun k => w2.heap.size ≤ k) nlv (winL H')) :
    RPpost w2 F bb (aput R R[i].1 H') (((w5.setCell ⟨r, i * 3, none⟩ (.int .i64 R[i].1)).setCell ⟨r, i * 3 + 1, none⟩ (.int .i64 H'.epoch)).setCell ⟨r, i * 3 + 2, none⟩ nlv) := by
  have hl := core_len hc
  have hi' : i < L.length := by omega
  have hr := h.own r rfl
  have hrl := h.lt r hr.1
  have hk1 : Keeps (fun k => k = r) w2 (((w5.setCell ⟨r, i * 3, none⟩ (.int .i64 R[i].1)).setCell ⟨r, i * 3 + 1, none⟩ (.int .i64 H'.epoch)).setCell ⟨r, i * 3 + 2, none⟩ nlv) := (((hk.mono (S1 := fun k => k = r) (fun _ _ e => e.elim)).setC _ _ (fun _ => rfl)).setC _ _ (fun _ => rfl)).setC _ _ (fun _ => rfl)
  have hk2 : Keeps (fun k => k = r) w5 (((w5.setCell ⟨r, i * 3, none⟩ (.int .i64 R[i].1)).setCell ⟨r, i * 3 + 1, none⟩ (.int .i64 H'.epoch)).setCell ⟨r, i * 3 + 2, none⟩ nlv) := (((Keeps.refl (fun k => k = r) w5).setC _ _ (fun _ => rfl)).setC _ _ (fun _ => rfl)).setC _ _ (fun _ => rfl)
  have hrow := (((row_keep hk h.row (fun _ _ e => e)).stored (i * 3) (.int .i64 R[i].1)).1.stored (i * 3 + 1) (.int .i64 H'.epoch)).1.stored (i * 3 + 2) nlv
  have hfl := flat_set3 L i hi' ⟨R[i].1, H'.epoch, nlv, winL H'⟩
  have hrow := hrow.1
  rw [hfl] at hrow
  have hrow' : World.ownsRow (((w5.setCell ⟨r, i * 3, none⟩ (.int .i64 R[i].1)).setCell ⟨r, i * 3 + 1, none⟩ (.int .i64 H'.epoch)).setCell ⟨r, i * 3 + 2, none⟩ nlv) 0 71 3 (.slice (some ⟨r, 0, none⟩) L.length cap) (L.set i ⟨R[i].1, H'.epoch, nlv, winL H'⟩).length ((L.set i ⟨R[i].1, H'.epoch, nlv, winL H'⟩).flatMap encI) := by
    rw [List.length_set]; exact hrow
  refine h.post (v' := .slice (some ⟨r, 0, none⟩) L.length cap) (L' := L.set i ⟨R[i].1, H'.epoch, nlv, winL H'⟩) hk1 (fun k e => .inr (by rw [e]; rfl)) ((hk1.block _ (block_lt h.blk) (fun e => hr.2 e.symm)).trans h.blk) hrow' (fun k e => .inl e) (fun x hx => ?_) ?_
  · rcases List.mem_or_eq_of_mem_set hx with hx | rfl
    · exact .inl ⟨x, hx, rfl, rfl⟩
    · exact .inr (hw.keep hk2 (fun k _ e e2 => by have e : w2.heap.size ≤ k := e; omega) (fun k _ e => ⟨e, fun e2 => by cases e2; have e : w2.heap.size ≤ r := e; omega⟩))
  · rw [← setI_aput hd H' hi]
    exact set_core hc i rfl
theorem win_own {w : World} {base g c n : Nat} {ws : List SentC} (h : w.ownsRow base 73 3 (.slice (some ⟨g, 0, none⟩) n c) n (ws.flatMap encS)) (hn : ws.length = n) (_hp : 0 < n) :
    ws.length ≤ c ∧ c ≤ maxLen ∧ base ≤ g ∧ g < w.heap.size ∧ ∀ q u, (ws.flatMap encS)[q]? = some u → w.cell? ⟨g, q, none⟩ = some u := by
  have hc : ∀ q u, (ws.flatMap encS)[q]? = some u → w.cell? ⟨g, q, none⟩ = some u := fun q u e => by
    have hj := (List.getElem?_eq_some_iff.1 e).1
    rw [flat_len encS 3 encS_len] at hj
    rw [h.cellAt q (by omega)]
    exact e
  rcases h.2 with ⟨h1, _⟩ | ⟨g2, cap, cur, h1, h2, h3, h4, h5, _⟩
  · cases h1
  · simp only [Value.slice.injEq, Option.some.injEq, Addr.mk.injEq, and_true, true_and] at h1
    obtain ⟨rfl, rfl⟩ := h1
    exact ⟨by omega, h5, h2, block_lt h3, hc⟩
set_option maxRecDepth 100000 in
set_option maxHeartbeats 16000000 in
theorem rnote_put (b : BatchC) (H : HeardC) (h : RPst w F bb R) (hd : KD R) (hb : mayB b = true) (hE : ¬ b.epoch < (oldH R b.prod).epoch) (ha : aget R b.prod = some H) (ok : HOk H) (X : HeardC) (hX : addH (if H.epoch = b.epoch then H else newHd b.epoch) (sentB b) = X) : Calls Try.prog 13 #[.pointer (some ⟨bb, 0, none⟩), .agg #[.int .i64 b.base, .int .i64 b.span, .int .i64 b.prod, .int .i64 b.epoch, .int .i64 b.seq, .slice b.ra b.rn b.rc]] w fun e w' => e = .returned (.tuple #[]) ∧ RPpost w F bb (aput R b.prod X) w' := by
  have HX := Lib.hid hX
  clear hX
  have hB : (w.alloc (.cells (bcells b) 31)).heap[w.heap.size]? = some (.cells (bcells b) 31 (0, 0)) := heap_new _ _ _ rfl
  have hK : K0 w (w.alloc (.cells (bcells b) 31)) := (Keeps.refl _ _).alloc _
  have HH := Lib.hid (h.keep hK (fun _ _ e => e))
  unfold bcells at hB hK HH
  have HB := Lib.hid hB
  have HK := Lib.hid hK
  have HM : Hid (∀ wx, Calls Try.prog 28 #[.agg #[.int .i64 b.base, .int .i64 b.span, .int .i64 b.prod, .int .i64 b.epoch, .int .i64 b.seq, .slice b.ra b.rn b.rc]] wx fun e w' => Same wx e (.bool true) w') := fun wx => by rw [← hb]; exact numbers_any b wx
  clear hB hK h
  go_enter Try.func13, Try.ntmps13
  go_upto_region 1 with fail
  generalize hWB : w.alloc (.cells #[.int .i64 b.base, .int .i64 b.span, .int .i64 b.prod, .int .i64 b.epoch, .int .i64 b.seq, .slice b.ra b.rn b.rc] 31) = WB at HH HB HK ⊢
  have HE : Hid (∀ wx, K0 WB wx → Calls Try.prog 15 #[.pointer (some ⟨bb, 0, none⟩), .int .i64 b.prod] wx fun e w' => e = .returned (.int .i64 (oldH R b.prod).epoch) ∧ w' = wx) := fun wx hk => repoch_any b.prod (HH.out.keep hk (fun _ _ e => e)) hd
  have hkd : K0 WB WB.drew := (Keeps.refl _ _).drew
  have bd : WB.drew.heap[w.heap.size]? = some (.cells #[.int .i64 b.base, .int .i64 b.span, .int .i64 b.prod, .int .i64 b.epoch, .int .i64 b.seq, .slice b.ra b.rn b.rc] 31 (0, 0)) := HB.out
  have p0 : WB.drew.cell? ⟨w.heap.size, 0, none⟩ = some (.int .i64 b.base) := block_cell bd 0
  have p1 : WB.drew.cell? ⟨w.heap.size, 1, none⟩ = some (.int .i64 b.span) := block_cell bd 1
  have p2 : WB.drew.cell? ⟨w.heap.size, 2, none⟩ = some (.int .i64 b.prod) := block_cell bd 2
  have p3 : WB.drew.cell? ⟨w.heap.size, 3, none⟩ = some (.int .i64 b.epoch) := block_cell bd 3
  have p4 : WB.drew.cell? ⟨w.heap.size, 4, none⟩ = some (.int .i64 b.seq) := block_cell bd 4
  have p5 : WB.drew.cell? ⟨w.heap.size, 5, none⟩ = some (.slice b.ra b.rn b.rc) := block_cell bd 5
  have pl : w.heap.size < WB.drew.heap.size := block_lt bd
  clear bd
  go_region_held3 (fun w' => w'.cell? ⟨w.heap.size, 0, none⟩ = some (.int .i64 b.base) ∧ w'.cell? ⟨w.heap.size, 1, none⟩ = some (.int .i64 b.span) ∧ w'.cell? ⟨w.heap.size, 2, none⟩ = some (.int .i64 b.prod) ∧ w'.cell? ⟨w.heap.size, 3, none⟩ = some (.int .i64 b.epoch) ∧ w'.cell? ⟨w.heap.size, 4, none⟩ = some (.int .i64 b.seq) ∧ w'.cell? ⟨w.heap.size, 5, none⟩ = some (.slice b.ra b.rn b.rc) ∧ K0 WB w')
    (first | go_keep | (go_split_ands; refine ⟨?_, ?_, ?_, ?_, ?_, ?_, ?_⟩ <;> first | assumption | exact Keeps.cell' (by assumption) (by assumption) (fun e => e) | exact K0.tr (by assumption) (by assumption)))
    (first | (go_at_call 28; refine (HM.out _).mono ?_; rintro e w' ⟨he, hk⟩; subst he) | (go_at_call 15; go_split_ands; refine (HE.out _ (by assumption)).mono ?_; rintro e w' ⟨he, hw⟩; subst he; subst hw))
  go_split_ands
  have kk : K0 WB w' := by assumption
  have bx := (kk.block _ (block_lt HB.out) (fun e => e)).trans HB.out
  have HK1 := Lib.hid (K0.tr HK.out kk)
  have HKK := Lib.hid kk
  have h1 := HH.out.keep kk (fun _ _ e => e)
  have c0 : w'.cell? ⟨w.heap.size, 0, none⟩ = some (.int .i64 b.base) := block_cell bx 0
  have c1 : w'.cell? ⟨w.heap.size, 1, none⟩ = some (.int .i64 b.span) := block_cell bx 1
  have c2 : w'.cell? ⟨w.heap.size, 2, none⟩ = some (.int .i64 b.prod) := block_cell bx 2
  have c3 : w'.cell? ⟨w.heap.size, 3, none⟩ = some (.int .i64 b.epoch) := block_cell bx 3
  have c4 : w'.cell? ⟨w.heap.size, 4, none⟩ = some (.int .i64 b.seq) := block_cell bx 4
  have cl := block_lt bx
  have HBX := Lib.hid bx
  obtain ⟨v, L, h2, hc⟩ := h1
  have x0 : w'.cell? ⟨bb, 0, none⟩ = some v := block_cell h2.blk 0
  have xl := block_lt h2.blk
  clear kk bx hkd p0 p1 p2 p3 p4 p5 pl
  have HF := Lib.hid (rfind_some h2 hc ha)
  have HL := Lib.hid (core_len hc)
  have HC := Lib.hid hc
  have HE2 : Hid (∀ i (hi : i < R.length), R[i].1 = b.prod → R[i].2 = H) := by
    show ∀ i hi, _ → _
    intro i hi he
    have := agetI_at hd hi
    rw [he, ha] at this
    cases this
    rfl
  obtain ⟨r, cap, rfl, hrb, hrl, hcap, hFr, hcm⟩ : ∃ r cap, v = .slice (some ⟨r, 0, none⟩) L.length cap ∧ r ≠ bb ∧ r < w'.heap.size ∧ L.length ≤ cap ∧ F r ∧ cap ≤ 9223372036854775807 := by
    rcases h2.form with ⟨hn, _⟩ | h9
    · have h9 : R = [] := List.eq_nil_of_length_eq_zero (by rw [← HL.out, hn]; rfl)
      rw [h9] at ha; cases ha
    · exact h9
  have H2 := Lib.hid h2
  have HD := Lib.hid hd
  clear h2 hc ha hd
  go_wp2_with fail
  refine HF.out.mono ?_
  rintro e w2 ⟨i, hi, rfl, rfl, he⟩
  have hi' : i < L.length := by rw [HL.out]; exact hi
  obtain ⟨g0, g1, g2⟩ := core_at HC.out hi' hi
  have hR := HE2.out i hi he
  rw [hR] at g1 g2
  rw [he] at g0
  obtain ⟨y0, y1, y2⟩ := H2.out.cell rfl i hi'
  have hout := H2.out.out _ (List.getElem_mem hi')
  rw [g2] at hout
  rw [g1] at y1
  rw [g0] at y0
  generalize L[i].lv = lv at y2 hout
  have HOUT := Lib.hid hout
  have HFIN : Hid (∀ w5 nlv H', K0 w2 w5 → WinE w5 (fun k => w2.heap.size ≤ k) nlv (winL H') → RPpost w F bb (aput R b.prod H') (((w5.setCell ⟨r, i * 3, none⟩ (.int .i64 b.prod)).setCell ⟨r, i * 3 + 1, none⟩ (.int .i64 H'.epoch)).setCell ⟨r, i * 3 + 2, none⟩ nlv)) := by
    show ∀ _ _ _, _ → _ → _
    intro w5 nlv H' hk5 hw5
    have := H2.out.noted HC.out HD.out hi hk5 hw5
    rw [he] at this
    exact RPpost.trans (fun k e => .inl e) (HK1.out.mono fun _ _ e => e.elim) this
  have i0 : (0 : Int) ≤ i := by omega
  have i1 : (i : Int) < L.length := by omega
  have i2 : ¬ (i : Int) < 0 := by omega
  have hown0 : w2.ownsRow (w2.heap.size + 1) 73 3 (.slice none 0 0) 0 [] := World.ownsRow_nil _ _ _ _
  obtain ⟨rcur, rblk⟩ : ∃ cur, w2.heap[r]? = some (.cells cur 71 (0, 0)) := by
    rcases H2.out.row.2 with ⟨h1, h2⟩ | ⟨r2, cap2, cur, h1, _, hg, _⟩
    · cases h1
    · simp only [Value.slice.injEq, Option.some.injEq, Addr.mk.injEq, and_true] at h1
      rw [← h1.1] at hg
      exact ⟨cur, hg⟩
  have fr0 := block_free rblk (i * 3)
  have fr1 := block_free rblk (i * 3 + 1)
  have fr2 := block_free rblk (i * 3 + 2)
  clear rblk
  clear g0 g1 g2 hR he hout
  by_cases hee : H.epoch = b.epoch
  · rw [if_pos hee] at HX
    have e1 : (H.epoch == b.epoch) = true := by simp [hee]
    have HEE := Lib.hid hee
    clear hee
    rcases HOUT.out with ⟨hn, rfl⟩ | ⟨g, off, wc, rfl, hwl, hwm, hgl, hG, hcells⟩
    · have HWX : Hid (winL X = [sentB b] ∧ X.epoch = H.epoch) := by
        show _ ∧ _
        rw [← HX.out]
        exact ⟨by rw [winL_add ok, hn]; rfl, rfl⟩
      clear hn
      have hwin : (1 : Int) ≤ 5 := by decide
      go_wp2_with (at_builtin; first | (refine wpList_appZ rfl rfl Try.underlying69 infoSent rfl (hown0.alloc _) rfl ?_) | (refine wpList_app1 rfl rfl Try.underlying69 infoSent rfl (by decide) rfl ((hown0.alloc _).alloc _) rfl (heap_new _ _ _ (by simp)) rfl rfl ⟨by omega, by decide⟩ (by first | (simp; done) | (simp; omega)) ?_; intro g4 c4' w4 hA4; have HA4 := Lib.hid hA4; have hk4 : K0 w2 w4 := Keeps.grown (((Keeps.refl _ _).alloc _).alloc _) hA4.grown (fun k e hlt => by cases e); have HK4 := Lib.hid hk4; have o4 : w4.heap[w2.heap.size]? = _ := hA4.far (block_alloc (heap_new _ _ _ rfl) _) (fun e => by cases e); have HO4 := Lib.hid o4; have n0 := block_cell o4 2; have n1 := block_free o4 2; have n2 := block_lt o4; have n4 : w4.cell? ⟨bb, 0, none⟩ = some (.slice (some ⟨r, 0, none⟩) L.length cap) := hk4.cell' x0 (fun e => e); clear hA4 hk4 o4))
      have HWV : Hid (WinE w4 (fun k => w2.heap.size ≤ k ∧ ¬ k = w2.heap.size) (.slice (some ⟨g4, 0, none⟩) 1 c4') (winL X)) := by
        show WinE _ _ _ _
        rw [HWX.out.1]
        obtain ⟨q1, q2, q3, q4, q5⟩ := win_own (ws := [sentB b]) HA4.out.own rfl (by decide)
        exact .inr ⟨g4, 0, c4', rfl, q1, q2, q4, ⟨by omega, by omega⟩, fun q u e => by rw [Nat.zero_add]; exact q5 q u e⟩
      obtain ⟨W, hW⟩ : ∃ W : World, W = w4.setCell ⟨w2.heap.size, 2, none⟩ (.slice (some ⟨g4, 0, none⟩) 1 c4') := ⟨_, rfl⟩
      rw [← hW]
      have hkW : K0 w2 W := by rw [hW]; exact (HK4.out.mono (S1 := fun k => k = w2.heap.size) (fun _ _ e => e.elim)).setC 2 _ (fun _ => rfl) |>.none (fun k hk e => by have e : k = w2.heap.size := e; omega)
      have hoW : W.heap[w2.heap.size]? = some (.cells #[.int .i64 b.prod, .int .i64 H.epoch, (.slice (some ⟨g4, 0, none⟩) 1 c4')] 71 (0, 0)) := by rw [hW]; exact setCell_block HO4.out 2 _
      have hwW : WinE W (fun k => w2.heap.size ≤ k) (.slice (some ⟨g4, 0, none⟩) 1 c4') (winL X) := by
        rw [hW]
        exact HWV.out.keep (S := fun k => k = w2.heap.size) ((Keeps.refl _ _).setC 2 _ (fun _ => rfl)) (fun k _ e e2 => e.2 e2) (fun k _ e => e.1)
      have HKW := Lib.hid hkW
      have HWW := Lib.hid hwW
      have hkd : K0 w2 W.drew := hkW.drew
      have z0 : W.drew.cell? ⟨w2.heap.size, 0, none⟩ = some (.int .i64 b.prod) := block_cell hoW 0
      have z1 : W.drew.cell? ⟨w2.heap.size, 1, none⟩ = some (.int .i64 H.epoch) := block_cell hoW 1
      have z2 : W.drew.cell? ⟨w2.heap.size, 2, none⟩ = some ((.slice (some ⟨g4, 0, none⟩) 1 c4')) := block_cell hoW 2
      have zl : w2.heap.size < W.drew.heap.size := block_lt hoW
      have z3 : W.drew.cell? ⟨bb, 0, none⟩ = some (.slice (some ⟨r, 0, none⟩) L.length cap) := hkd.cell' x0 (fun e => e)
      have z4 : bb < W.drew.heap.size := Nat.lt_of_lt_of_le xl hkd.size
      have z5 := hkd.cell' y0 (fun e => e)
      have u5 := HKW.out.cell' y0 (fun e => e)
      have u6 := HKW.out.cell' y1 (fun e => e)
      have u7 := HKW.out.cell' y2 (fun e => e)
      have v0 : W.frozen? ⟨r, i * 3, none⟩ = false := (HKW.out.frozen hrl (fun e => e)).trans fr0
      have v1 : W.frozen? ⟨r, i * 3 + 1, none⟩ = false := (HKW.out.frozen hrl (fun e => e)).trans fr1
      have v2 : W.frozen? ⟨r, i * 3 + 2, none⟩ = false := (HKW.out.frozen hrl (fun e => e)).trans fr2
      have z6 := hkd.cell' y1 (fun e => e)
      have z7 := hkd.cell' y2 (fun e => e)
      have z8 : r < W.drew.heap.size := Nat.lt_of_lt_of_le hrl hkd.size
      have f0 : W.drew.frozen? ⟨r, i * 3, none⟩ = false := (hkd.frozen hrl (fun e => e)).trans fr0
      have f1 : W.drew.frozen? ⟨r, i * 3 + 1, none⟩ = false := (hkd.frozen hrl (fun e => e)).trans fr1
      have f2 : W.drew.frozen? ⟨r, i * 3 + 2, none⟩ = false := (hkd.frozen hrl (fun e => e)).trans fr2
      have HFN := Lib.hid (HFIN.out W.drew ((.slice (some ⟨g4, 0, none⟩) 1 c4')) X hkd (hwW.keep (S := fun _ => False) (Keeps.refl _ _).drew (fun _ _ _ e => e) (fun _ _ e => e)))
      rw [HWX.out.2] at HFN
      clear hW hkW hoW hwW hkd  fr0 fr1 fr2 x0 xl y0 y1 y2
      go_region
      go_wp2
      go_end0
      exact ⟨rfl, HFN.out⟩
    · have h5c := ok.c
      have hwlen : (winL H).length ≤ 5 := by rw [winL_len]; exact h5c
      have HN1 : Hid (∀ wx, K0 w2 wx → ∀ q u, ((winL H).flatMap encS)[q]? = some u → wx.cell? ((⟨g, off, none⟩ : Addr).add q) = some u) := by
        show ∀ _, _ → _
        intro wx hk q u e
        rw [add_at]
        exact hk.cell' (hcells q u e) (fun e => e)
      have hl1 : ((winL H).flatMap encS).length = (winL H).length * 3 := flat_len encS 3 encS_len _
      have hc1 : ∀ u ∈ (winL H).flatMap encS, u.oneCell' = true := fun u hu => by
        obtain ⟨y, hy, hu⟩ := List.mem_flatMap.1 hu
        exact encS_one y u hu
      unfold maxLen at hwm
      by_cases hw5 : (winL H).length = 5
      · have HWX : Hid (winL X = (winL H).tail ++ [sentB b] ∧ X.epoch = H.epoch) := by
          show _ ∧ _
          rw [← HX.out]
          exact ⟨by rw [winL_add ok, if_pos hw5], rfl⟩
        have HL5 := Lib.hid hw5
        rw [hw5] at y2 hl1 hwl
        clear hcells hG hw5 hwlen h5c
        go_wp2_with (at_builtin; first | (refine wpList_appN rfl rfl Try.underlying69 infoSent rfl (by decide) rfl (hown0.alloc _) rfl hl1 (HN1.out _ ((Keeps.refl _ _).alloc _)) hc1 ⟨by omega, by decide⟩ (by first | (simp; done) | (simp; omega)) ?_; intro v1 w3 hv1 hg1; simp only [Nat.zero_add, List.nil_append] at hv1; obtain ⟨va1, vc1, rfl⟩ := own_slice hv1; have hk3 : K0 w2 w3 := Keeps.grown ((Keeps.refl _ _).alloc _) hg1 (fun k e => by cases e); have o3 : w3.heap[w2.heap.size]? = _ := (hg1.block _ (by simp) (fun e => by cases e)).trans (heap_new _ _ _ rfl); have HK3 := Lib.hid hk3; have HO3 := Lib.hid o3; have HV1 := Lib.hid hv1; have hs3 : w2.heap.size + 1 ≤ w3.heap.size := (by have := block_lt o3; omega); have d0 := hk3.cell' c0 (fun e => e); have d1 := hk3.cell' c1 (fun e => e); have d4 := hk3.cell' c4 (fun e => e); have dl := Nat.lt_of_lt_of_le cl hk3.size; clear hg1 hk3 o3) | (refine wpList_app1 rfl rfl Try.underlying69 infoSent rfl (by decide) rfl (HV1.out.alloc _) rfl (heap_new _ _ _ (by simp)) rfl rfl ⟨by omega, by decide⟩ (by first | (simp; done) | (simp; omega)) ?_; intro g4 c4' w4 hA4; have HA4 := Lib.hid hA4; have hk4 : K0 w2 w4 := Keeps.grown (HK3.out.alloc _) hA4.grown (fun k e hlt => absurd (HV1.out.lt k e).1 (by omega)); have HK4 := Lib.hid hk4; have o4 : w4.heap[w2.heap.size]? = _ := hA4.far (block_alloc HO3.out _) (fun e => absurd (HV1.out.lt _ e).1 (by omega)); have HO4 := Lib.hid o4; have n0 := block_cell o4 2; have n1 := block_free o4 2; have n2 := block_lt o4; have n4 : w4.cell? ⟨bb, 0, none⟩ = some (.slice (some ⟨r, 0, none⟩) L.length cap) := hk4.cell' x0 (fun e => e); have hq4 : (6 : Int) ≤ c4' := (by have := (win_own (w := w4) (base := w2.heap.size + 1) (g := g4) (c := c4') (n := 5 + 1) (ws := winL H ++ [sentB b]) (by rw [List.flatMap_append]; exact HA4.out.own) (by rw [List.length_append, HL5.out]; rfl) (by omega)).1; rw [List.length_append, HL5.out] at this; simp at this; omega); clear hA4 hk4 o4 hv1))
        have HWV : Hid (WinE w4 (fun k => w2.heap.size ≤ k ∧ ¬ k = w2.heap.size) (.slice (some ⟨g4, 3, none⟩) 5 (c4' - 1)) (winL X)) := by
          show WinE _ _ _ _
          rw [HWX.out.1]
          have hl6 : (winL H ++ [sentB b]).length = 6 := by rw [List.length_append, HL5.out]; rfl
          obtain ⟨q1, q2, q3, q4, q5⟩ := win_own (w := w4) (base := w2.heap.size + 1) (g := g4) (c := c4') (n := 5 + 1) (ws := winL H ++ [sentB b]) (by rw [List.flatMap_append]; exact HA4.out.own) hl6 (by omega)
          have htl : (winL H).tail ++ [sentB b] = (winL H ++ [sentB b]).drop 1 := by
            cases hx : winL H with
            | nil => have := HL5.out; rw [hx] at this; cases this
            | cons a l => rfl
          rw [htl]
          refine .inr ⟨g4, 3, c4' - 1, by rw [List.length_drop, hl6], by rw [List.length_drop]; omega, by omega, q4, ⟨by omega, by omega⟩, fun q u e => ?_⟩
          rw [flatN_drop encS 3 encS_len, List.getElem?_drop] at e
          exact q5 _ u e
        obtain ⟨W, hW⟩ : ∃ W : World, W = w4.setCell ⟨w2.heap.size, 2, none⟩ (.slice (some ⟨g4, 3, none⟩) 5 (c4' - 1)) := ⟨_, rfl⟩
        rw [← hW]
        have hkW : K0 w2 W := by rw [hW]; exact (HK4.out.mono (S1 := fun k => k = w2.heap.size) (fun _ _ e => e.elim)).setC 2 _ (fun _ => rfl) |>.none (fun k hk e => by have e : k = w2.heap.size := e; omega)
        have hoW : W.heap[w2.heap.size]? = some (.cells #[.int .i64 b.prod, .int .i64 H.epoch, (.slice (some ⟨g4, 3, none⟩) 5 (c4' - 1))] 71 (0, 0)) := by rw [hW]; exact setCell_block HO4.out 2 _
        have hwW : WinE W (fun k => w2.heap.size ≤ k) (.slice (some ⟨g4, 3, none⟩) 5 (c4' - 1)) (winL X) := by
          rw [hW]
          exact HWV.out.keep (S := fun k => k = w2.heap.size) ((Keeps.refl _ _).setC 2 _ (fun _ => rfl)) (fun k _ e e2 => e.2 e2) (fun k _ e => e.1)
        have HKW := Lib.hid hkW
        have HWW := Lib.hid hwW
        have hkd : K0 w2 W.drew := hkW.drew
        have z0 : W.drew.cell? ⟨w2.heap.size, 0, none⟩ = some (.int .i64 b.prod) := block_cell hoW 0
        have z1 : W.drew.cell? ⟨w2.heap.size, 1, none⟩ = some (.int .i64 H.epoch) := block_cell hoW 1
        have z2 : W.drew.cell? ⟨w2.heap.size, 2, none⟩ = some ((.slice (some ⟨g4, 3, none⟩) 5 (c4' - 1))) := block_cell hoW 2
        have zl : w2.heap.size < W.drew.heap.size := block_lt hoW
        have z3 : W.drew.cell? ⟨bb, 0, none⟩ = some (.slice (some ⟨r, 0, none⟩) L.length cap) := hkd.cell' x0 (fun e => e)
        have z4 : bb < W.drew.heap.size := Nat.lt_of_lt_of_le xl hkd.size
        have z5 := hkd.cell' y0 (fun e => e)
        have u5 := HKW.out.cell' y0 (fun e => e)
        have u6 := HKW.out.cell' y1 (fun e => e)
        have u7 := HKW.out.cell' y2 (fun e => e)
        have v0 : W.frozen? ⟨r, i * 3, none⟩ = false := (HKW.out.frozen hrl (fun e => e)).trans fr0
        have v1 : W.frozen? ⟨r, i * 3 + 1, none⟩ = false := (HKW.out.frozen hrl (fun e => e)).trans fr1
        have v2 : W.frozen? ⟨r, i * 3 + 2, none⟩ = false := (HKW.out.frozen hrl (fun e => e)).trans fr2
        have z6 := hkd.cell' y1 (fun e => e)
        have z7 := hkd.cell' y2 (fun e => e)
        have z8 : r < W.drew.heap.size := Nat.lt_of_lt_of_le hrl hkd.size
        have f0 : W.drew.frozen? ⟨r, i * 3, none⟩ = false := (hkd.frozen hrl (fun e => e)).trans fr0
        have f1 : W.drew.frozen? ⟨r, i * 3 + 1, none⟩ = false := (hkd.frozen hrl (fun e => e)).trans fr1
        have f2 : W.drew.frozen? ⟨r, i * 3 + 2, none⟩ = false := (hkd.frozen hrl (fun e => e)).trans fr2
        have HFN := Lib.hid (HFIN.out W.drew ((.slice (some ⟨g4, 3, none⟩) 5 (c4' - 1))) X hkd (hwW.keep (S := fun _ => False) (Keeps.refl _ _).drew (fun _ _ _ e => e) (fun _ _ e => e)))
        rw [HWX.out.2] at HFN
        clear hW hkW hoW hwW hkd  fr0 fr1 fr2 x0 xl y0 y1 y2
        go_region
        go_wp2
        go_end0
        exact ⟨rfl, HFN.out⟩
      · have HWX : Hid (winL X = winL H ++ [sentB b] ∧ X.epoch = H.epoch) := by
          show _ ∧ _
          rw [← HX.out]
          exact ⟨by rw [winL_add ok, if_neg hw5], rfl⟩
        obtain ⟨nn, hnn⟩ : ∃ nn, nn = (winL H).length := ⟨_, rfl⟩
        have HL5 : Hid ((winL H).length = nn) := hnn.symm
        have hn4 : nn ≤ 4 := by omega
        rw [← hnn] at y2 hl1 hwl
        clear hcells hG hw5 hwlen h5c hnn
        have hn0 : ¬ (5 : Int) < ((nn + 1 : Nat) : Int) := by omega
        go_wp2_with (at_builtin; first | (refine wpList_appN rfl rfl Try.underlying69 infoSent rfl (by decide) rfl (hown0.alloc _) rfl hl1 (HN1.out _ ((Keeps.refl _ _).alloc _)) hc1 ⟨by omega, by decide⟩ (by first | (simp; done) | (simp; omega)) ?_; intro v1 w3 hv1 hg1; simp only [Nat.zero_add, List.nil_append] at hv1; obtain ⟨va1, vc1, rfl⟩ := own_slice hv1; have hk3 : K0 w2 w3 := Keeps.grown ((Keeps.refl _ _).alloc _) hg1 (fun k e => by cases e); have o3 : w3.heap[w2.heap.size]? = _ := (hg1.block _ (by simp) (fun e => by cases e)).trans (heap_new _ _ _ rfl); have HK3 := Lib.hid hk3; have HO3 := Lib.hid o3; have HV1 := Lib.hid hv1; have hs3 : w2.heap.size + 1 ≤ w3.heap.size := (by have := block_lt o3; omega); have d0 := hk3.cell' c0 (fun e => e); have d1 := hk3.cell' c1 (fun e => e); have d4 := hk3.cell' c4 (fun e => e); have dl := Nat.lt_of_lt_of_le cl hk3.size; clear hg1 hk3 o3) | (refine wpList_app1 rfl rfl Try.underlying69 infoSent rfl (by decide) rfl (HV1.out.alloc _) rfl (heap_new _ _ _ (by simp)) rfl rfl ⟨by omega, by decide⟩ (by first | (simp; done) | (simp; omega)) ?_; intro g4 c4' w4 hA4; have HA4 := Lib.hid hA4; have hk4 : K0 w2 w4 := Keeps.grown (HK3.out.alloc _) hA4.grown (fun k e hlt => absurd (HV1.out.lt k e).1 (by omega)); have HK4 := Lib.hid hk4; have o4 : w4.heap[w2.heap.size]? = _ := hA4.far (block_alloc HO3.out _) (fun e => absurd (HV1.out.lt _ e).1 (by omega)); have HO4 := Lib.hid o4; have n0 := block_cell o4 2; have n1 := block_free o4 2; have n2 := block_lt o4; have n4 : w4.cell? ⟨bb, 0, none⟩ = some (.slice (some ⟨r, 0, none⟩) L.length cap) := hk4.cell' x0 (fun e => e); have hq4 : (((nn + 1 : Nat) : Int) : Int) ≤ c4' := (by have := (win_own (w := w4) (base := w2.heap.size + 1) (g := g4) (c := c4') (n := nn + 1) (ws := winL H ++ [sentB b]) (by rw [List.flatMap_append]; exact HA4.out.own) (by rw [List.length_append, HL5.out]; rfl) (by omega)).1; rw [List.length_append, HL5.out] at this; simp at this; omega); clear hA4 hk4 o4 hv1))
        have HWV : Hid (WinE w4 (fun k => w2.heap.size ≤ k ∧ ¬ k = w2.heap.size) (.slice (some ⟨g4, 0, none⟩) (nn + 1) c4') (winL X)) := by
          show WinE _ _ _ _
          rw [HWX.out.1]
          obtain ⟨q1, q2, q3, q4, q5⟩ := win_own (w := w4) (base := w2.heap.size + 1) (g := g4) (c := c4') (n := nn + 1) (ws := winL H ++ [sentB b]) (by rw [List.flatMap_append]; exact HA4.out.own) (by rw [List.length_append, HL5.out]; rfl) (by omega)
          exact .inr ⟨g4, 0, c4', by rw [List.length_append, HL5.out]; rfl, q1, q2, q4, ⟨by omega, by omega⟩, fun q u e => by rw [Nat.zero_add]; exact q5 q u e⟩
        obtain ⟨W, hW⟩ : ∃ W : World, W = w4.setCell ⟨w2.heap.size, 2, none⟩ (.slice (some ⟨g4, 0, none⟩) (nn + 1) c4') := ⟨_, rfl⟩
        rw [← hW]
        have hkW : K0 w2 W := by rw [hW]; exact (HK4.out.mono (S1 := fun k => k = w2.heap.size) (fun _ _ e => e.elim)).setC 2 _ (fun _ => rfl) |>.none (fun k hk e => by have e : k = w2.heap.size := e; omega)
        have hoW : W.heap[w2.heap.size]? = some (.cells #[.int .i64 b.prod, .int .i64 H.epoch, (.slice (some ⟨g4, 0, none⟩) (nn + 1) c4')] 71 (0, 0)) := by rw [hW]; exact setCell_block HO4.out 2 _
        have hwW : WinE W (fun k => w2.heap.size ≤ k) (.slice (some ⟨g4, 0, none⟩) (nn + 1) c4') (winL X) := by
          rw [hW]
          exact HWV.out.keep (S := fun k => k = w2.heap.size) ((Keeps.refl _ _).setC 2 _ (fun _ => rfl)) (fun k _ e e2 => e.2 e2) (fun k _ e => e.1)
        have HKW := Lib.hid hkW
        have HWW := Lib.hid hwW
        have hkd : K0 w2 W.drew := hkW.drew
        have z0 : W.drew.cell? ⟨w2.heap.size, 0, none⟩ = some (.int .i64 b.prod) := block_cell hoW 0
        have z1 : W.drew.cell? ⟨w2.heap.size, 1, none⟩ = some (.int .i64 H.epoch) := block_cell hoW 1
        have z2 : W.drew.cell? ⟨w2.heap.size, 2, none⟩ = some ((.slice (some ⟨g4, 0, none⟩) (nn + 1) c4')) := block_cell hoW 2
        have zl : w2.heap.size < W.drew.heap.size := block_lt hoW
        have z3 : W.drew.cell? ⟨bb, 0, none⟩ = some (.slice (some ⟨r, 0, none⟩) L.length cap) := hkd.cell' x0 (fun e => e)
        have z4 : bb < W.drew.heap.size := Nat.lt_of_lt_of_le xl hkd.size
        have z5 := hkd.cell' y0 (fun e => e)
        have u5 := HKW.out.cell' y0 (fun e => e)
        have u6 := HKW.out.cell' y1 (fun e => e)
        have u7 := HKW.out.cell' y2 (fun e => e)
        have v0 : W.frozen? ⟨r, i * 3, none⟩ = false := (HKW.out.frozen hrl (fun e => e)).trans fr0
        have v1 : W.frozen? ⟨r, i * 3 + 1, none⟩ = false := (HKW.out.frozen hrl (fun e => e)).trans fr1
        have v2 : W.frozen? ⟨r, i * 3 + 2, none⟩ = false := (HKW.out.frozen hrl (fun e => e)).trans fr2
        have z6 := hkd.cell' y1 (fun e => e)
        have z7 := hkd.cell' y2 (fun e => e)
        have z8 : r < W.drew.heap.size := Nat.lt_of_lt_of_le hrl hkd.size
        have f0 : W.drew.frozen? ⟨r, i * 3, none⟩ = false := (hkd.frozen hrl (fun e => e)).trans fr0
        have f1 : W.drew.frozen? ⟨r, i * 3 + 1, none⟩ = false := (hkd.frozen hrl (fun e => e)).trans fr1
        have f2 : W.drew.frozen? ⟨r, i * 3 + 2, none⟩ = false := (hkd.frozen hrl (fun e => e)).trans fr2
        have HFN := Lib.hid (HFIN.out W.drew ((.slice (some ⟨g4, 0, none⟩) (nn + 1) c4')) X hkd (hwW.keep (S := fun _ => False) (Keeps.refl _ _).drew (fun _ _ _ e => e) (fun _ _ e => e)))
        rw [HWX.out.2] at HFN
        clear hW hkW hoW hwW hkd  fr0 fr1 fr2 x0 xl y0 y1 y2
        go_region
        go_wp2
        go_end0
        exact ⟨rfl, HFN.out⟩
  · rw [if_neg hee] at HX
    have e1 : (H.epoch == b.epoch) = false := by rw [beq_eq_false_iff_ne]; exact hee
    have HWX : Hid (winL X = [sentB b] ∧ X.epoch = b.epoch) := by
      show _ ∧ _
      rw [← HX.out]
      exact ⟨by rw [winL_add (newHd_ok _)]; rfl, rfl⟩
    clear hee
    obtain ⟨la, ln, lc, rfl⟩ : ∃ la ln lc, lv = .slice la ln lc := by rcases HOUT.out with ⟨_, h⟩ | ⟨_, _, _, h, _⟩ <;> exact ⟨_, _, _, h⟩
    have hwin : (1 : Int) ≤ 5 := by decide
    go_wp2_with (at_builtin; first | (refine wpList_appZ rfl rfl Try.underlying69 infoSent rfl (hown0.alloc _) rfl ?_) | (refine wpList_app1 rfl rfl Try.underlying69 infoSent rfl (by decide) rfl ((hown0.alloc _).alloc _) rfl (heap_new _ _ _ (by simp)) rfl rfl ⟨by omega, by decide⟩ (by first | (simp; done) | (simp; omega)) ?_; intro g4 c4' w4 hA4; have HA4 := Lib.hid hA4; have hk4 : K0 w2 w4 := Keeps.grown (((Keeps.refl _ _).alloc _).alloc _) hA4.grown (fun k e hlt => by cases e); have HK4 := Lib.hid hk4; have o4 : w4.heap[w2.heap.size]? = _ := hA4.far (block_alloc (heap_new _ _ _ rfl) _) (fun e => by cases e); have HO4 := Lib.hid o4; have n0 := block_cell o4 2; have n1 := block_free o4 2; have n2 := block_lt o4; have n4 : w4.cell? ⟨bb, 0, none⟩ = some (.slice (some ⟨r, 0, none⟩) L.length cap) := hk4.cell' x0 (fun e => e); clear hA4 hk4 o4))
    have HWV : Hid (WinE w4 (fun k => w2.heap.size ≤ k ∧ ¬ k = w2.heap.size) (.slice (some ⟨g4, 0, none⟩) 1 c4') (winL X)) := by
      show WinE _ _ _ _
      rw [HWX.out.1]
      obtain ⟨q1, q2, q3, q4, q5⟩ := win_own (ws := [sentB b]) HA4.out.own rfl (by decide)
      exact .inr ⟨g4, 0, c4', rfl, q1, q2, q4, ⟨by omega, by omega⟩, fun q u e => by rw [Nat.zero_add]; exact q5 q u e⟩
    obtain ⟨W, hW⟩ : ∃ W : World, W = w4.setCell ⟨w2.heap.size, 2, none⟩ (.slice (some ⟨g4, 0, none⟩) 1 c4') := ⟨_, rfl⟩
    rw [← hW]
    have hkW : K0 w2 W := by rw [hW]; exact (HK4.out.mono (S1 := fun k => k = w2.heap.size) (fun _ _ e => e.elim)).setC 2 _ (fun _ => rfl) |>.none (fun k hk e => by have e : k = w2.heap.size := e; omega)
    have hoW : W.heap[w2.heap.size]? = some (.cells #[.int .i64 b.prod, .int .i64 b.epoch, (.slice (some ⟨g4, 0, none⟩) 1 c4')] 71 (0, 0)) := by rw [hW]; exact setCell_block HO4.out 2 _
    have hwW : WinE W (fun k => w2.heap.size ≤ k) (.slice (some ⟨g4, 0, none⟩) 1 c4') (winL X) := by
      rw [hW]
      exact HWV.out.keep (S := fun k => k = w2.heap.size) ((Keeps.refl _ _).setC 2 _ (fun _ => rfl)) (fun k _ e e2 => e.2 e2) (fun k _ e => e.1)
    have HKW := Lib.hid hkW
    have HWW := Lib.hid hwW
    have hkd : K0 w2 W.drew := hkW.drew
    have z0 : W.drew.cell? ⟨w2.heap.size, 0, none⟩ = some (.int .i64 b.prod) := block_cell hoW 0
    have z1 : W.drew.cell? ⟨w2.heap.size, 1, none⟩ = some (.int .i64 b.epoch) := block_cell hoW 1
    have z2 : W.drew.cell? ⟨w2.heap.size, 2, none⟩ = some ((.slice (some ⟨g4, 0, none⟩) 1 c4')) := block_cell hoW 2
    have zl : w2.heap.size < W.drew.heap.size := block_lt hoW
    have z3 : W.drew.cell? ⟨bb, 0, none⟩ = some (.slice (some ⟨r, 0, none⟩) L.length cap) := hkd.cell' x0 (fun e => e)
    have z4 : bb < W.drew.heap.size := Nat.lt_of_lt_of_le xl hkd.size
    have z5 := hkd.cell' y0 (fun e => e)
    have u5 := HKW.out.cell' y0 (fun e => e)
    have u6 := HKW.out.cell' y1 (fun e => e)
    have u7 := HKW.out.cell' y2 (fun e => e)
    have v0 : W.frozen? ⟨r, i * 3, none⟩ = false := (HKW.out.frozen hrl (fun e => e)).trans fr0
    have v1 : W.frozen? ⟨r, i * 3 + 1, none⟩ = false := (HKW.out.frozen hrl (fun e => e)).trans fr1
    have v2 : W.frozen? ⟨r, i * 3 + 2, none⟩ = false := (HKW.out.frozen hrl (fun e => e)).trans fr2
    have z6 := hkd.cell' y1 (fun e => e)
    have z7 := hkd.cell' y2 (fun e => e)
    have z8 : r < W.drew.heap.size := Nat.lt_of_lt_of_le hrl hkd.size
    have f0 : W.drew.frozen? ⟨r, i * 3, none⟩ = false := (hkd.frozen hrl (fun e => e)).trans fr0
    have f1 : W.drew.frozen? ⟨r, i * 3 + 1, none⟩ = false := (hkd.frozen hrl (fun e => e)).trans fr1
    have f2 : W.drew.frozen? ⟨r, i * 3 + 2, none⟩ = false := (hkd.frozen hrl (fun e => e)).trans fr2
    have HFN := Lib.hid (HFIN.out W.drew ((.slice (some ⟨g4, 0, none⟩) 1 c4')) X hkd (hwW.keep (S := fun _ => False) (Keeps.refl _ _).drew (fun _ _ _ e => e) (fun _ _ e => e)))
    rw [HWX.out.2] at HFN
    clear hW hkW hoW hwW hkd  fr0 fr1 fr2 x0 xl y0 y1 y2
    go_region
    go_wp2
    go_end0
    exact ⟨rfl, HFN.out⟩
end
end Go.Proofs.Ytbjpifipjcfhkaa
