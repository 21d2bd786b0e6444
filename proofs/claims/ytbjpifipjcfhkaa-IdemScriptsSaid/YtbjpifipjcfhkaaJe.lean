/-
  The document's Note, whole.
-/
import Derived.Test.YtbjpifipjcfhkaaJd
namespace Go.Proofs.Ytbjpifipjcfhkaa
open Go.RowKit Fx

def newO (b : BatchC) : OneI := ⟨b.prod, b.epoch, .slice none 0 0, []⟩
/-- What is so of the producers in all later worlds. -/
structure RPF (w wx : World) (wb bb : Nat) (b : BatchC) (v : Value) : Prop where
  k0 : K0 w wx
  c0 : wx.cell? ⟨bb, 0, none⟩ = some v
  lt : bb < wx.heap.size
  f0 : wx.frozen? ⟨bb, 0, none⟩ = false
  b2 : wx.cell? ⟨wb, 2, none⟩ = some (.int .i64 b.prod)
  b3 : wx.cell? ⟨wb, 3, none⟩ = some (.int .i64 b.epoch)
  bl : wb < wx.heap.size
structure RPN (wx : World) (r : Nat) (L : List OneI) (k : Nat) : Prop where
  n1 : ∀ q u, ((L.take k).flatMap encI)[q]? = some u → wx.cell? ((⟨r, 0, none⟩ : Addr).add q) = some u
  n2 : ∀ q u, ((L.drop k).flatMap encI)[q]? = some u → wx.cell? ((⟨r, k * 3, none⟩ : Addr).add q) = some u
section
variable {w w2 wx : World} {F : Nat → Prop} {bb r cap : Nat} {L : List OneI} {R : List (Int × HeardC)} {v : Value}
theorem RPAt.rpf {wb : Nat} {b : BatchC} (h : RPAt w F bb v L) (hb : w.heap[wb]? = some (.cells #[.int .i64 b.base, .int .i64 b.span, .int .i64 b.prod, .int .i64 b.epoch, .int .i64 b.seq, .slice b.ra b.rn b.rc] 31 (0, 0))) (hk : K0 w wx) : RPF w wx wb bb b v :=
  have h1 := h.keep hk (fun _ _ e => e)
  have h2 := (hk.block _ (block_lt hb) (fun e => e)).trans hb
  ⟨hk, block_cell h1.blk 0, block_lt h1.blk, block_free h1.blk 0, block_cell h2 2, block_cell h2 3, block_lt h2⟩
theorem RPAt.rpn (h : RPAt w F bb (.slice (some ⟨r, 0, none⟩) L.length cap) L) (hk : K0 w wx) (k : Nat) : RPN wx r L k := by
  have h1 := h.keep hk (fun _ _ e => e)
  have hcells : ∀ q u, (L.flatMap encI)[q]? = some u → wx.cell? ⟨r, q, none⟩ = some u := fun q u hu => by
    have hj : q < (L.flatMap encI).length := (List.getElem?_eq_some_iff.1 hu).1
    rw [h1.row.cellAt q (by rw [flat_len encI 3 encI_len] at hj; exact hj)]
    exact hu
  refine ⟨fun q u hu => ?_, fun q u hu => ?_⟩
  · rw [flatN_take encI 3 encI_len, List.getElem?_take] at hu
    split at hu
    · rw [add_at, Nat.zero_add]; exact hcells q u hu
    · cases hu
  · rw [flatN_drop encI 3 encI_len, List.getElem?_drop] at hu
    rw [add_at]
    exact hcells _ u hu
theorem RPAt.one (h : RPAt w F bb v L) : ∀ x ∈ L, ∀ u ∈ encI x, u.oneCell' = true := fun x hx u hu => by
  simp only [encI, List.mem_cons, List.not_mem_nil, or_false] at hu
  rcases hu with rfl | rfl | rfl
  · rfl
  · rfl
  · rcases h.out x hx with ⟨_, e⟩ | ⟨_, _, _, e, _⟩ <;> rw [e] <;> rfl
/-- A new one has been laid in its place. -/
def NewRel (_w w2 : World) (F : Nat → Prop) (wb bb : Nat) (R : List (Int × HeardC)) (b : BatchC) (k : Nat) (wc : World) : Prop :=
  ∃ F1 r cap L, RPAt wc F1 bb (.slice (some ⟨r, 0, none⟩) L.length cap) L ∧ L.map coreO = (insI R b.prod (newHd b.epoch)).map coreI ∧ (∃ hk : k < L.length, L[k].id = b.prod ∧ L[k].ep = b.epoch ∧ L[k].lv = .slice none 0 0) ∧ L.length ≤ cap ∧ Keeps F w2 wc ∧ (∀ j, F1 j → F j ∨ w2.heap.size ≤ j) ∧
    wc.heap[wb]? = some (.cells #[.int .i64 b.base, .int .i64 b.span, .int .i64 b.prod, .int .i64 b.epoch, .int .i64 b.seq, .slice b.ra b.rn b.rc] 31 (0, 0))
theorem newRel {wb : Nat} {b : BatchC} (h : RPAt w2 F bb v L) (hc : L.map coreO = R.map coreI) (hb : w2.heap[wb]? = some (.cells #[.int .i64 b.base, .int .i64 b.span, .int .i64 b.prod, .int .i64 b.epoch, .int .i64 b.seq, .slice b.ra b.rn b.rc] 31 (0, 0))) (hnb : ¬ wb = bb) {w4 : World} {va : Option Addr} {vc k : Nat} (hp : PlaceI R b.prod k) (hk : K0 w2 w4)
    (ho : w4.ownsRow w2.heap.size 71 3 (.slice va (L.length + 1) vc) (L.length + 1) ((L.take k).flatMap encI ++ encI (newO b) ++ (L.drop k).flatMap encI)) :
    NewRel w w2 F wb bb R b k (w4.setCell ⟨bb, 0, none⟩ (.slice va (L.length + 1) vc)) := by
  have hb2 := block_lt h.blk
  have hlr := core_len hc
  have hkl := hp.le
  have hL' : (L.take k ++ newO b :: L.drop k).length = L.length + 1 := by simp; omega
  have hk1 : Keeps (fun j => j = bb) w2 (w4.setCell ⟨bb, 0, none⟩ (.slice va (L.length + 1) vc)) := (hk.mono (S1 := fun j => j = bb) (fun _ _ e => e.elim)).setC 0 _ (fun _ => rfl)
  have hk2 : Keeps (fun j => j = bb) w4 (w4.setCell ⟨bb, 0, none⟩ (.slice va (L.length + 1) vc)) := (Keeps.refl (fun j => j = bb) w4).setC 0 _ (fun _ => rfl)
  have ho2 : w4.ownsRow w2.heap.size 71 3 (.slice va (L.length + 1) vc) (L.take k ++ newO b :: L.drop k).length ((L.take k ++ newO b :: L.drop k).flatMap encI) := by
    rw [hL', List.flatMap_append, List.flatMap_cons, ← List.append_assoc]
    exact ho
  have ho3 := row_keep hk2 ho2 (fun j e e2 => by have := (ho2.lt j e).1; have e2 : j = bb := e2; omega)
  have hst := h.step (v' := .slice va (L.length + 1) vc) (L' := L.take k ++ newO b :: L.drop k) hk1 (fun j e => .inl e) (setCell_block ((hk.block _ hb2 (fun e => e)).trans h.blk) 0 _) (own_base ho3 (Nat.zero_le _)) (fun j e => .inr (ho2.lt j e).1) (fun x hx => by
    rcases List.mem_append.1 hx with hx | hx
    · exact .inl ⟨x, List.mem_of_mem_take hx, rfl, rfl⟩
    · rcases List.mem_cons.1 hx with rfl | hx
      · exact .inr (.inl ⟨rfl, rfl⟩)
      · exact .inl ⟨x, List.mem_of_mem_drop hx, rfl, rfl⟩)
  obtain ⟨r2, c2, hva, hcc⟩ : ∃ r2 c2, Value.slice va (L.length + 1) vc = .slice (some ⟨r2, 0, none⟩) (L.take k ++ newO b :: L.drop k).length c2 ∧ (L.take k ++ newO b :: L.drop k).length ≤ c2 := by
    rcases ho2.2 with ⟨_, h2⟩ | ⟨g, cp, cur, h1, _, _, h4, _⟩
    · omega
    · exact ⟨g, cp, h1, h4⟩
  rw [hva] at hst hk1 ⊢
  have hkx : k < (L.take k ++ newO b :: L.drop k).length := by omega
  have hget : (L.take k ++ newO b :: L.drop k)[k] = newO b := by
    rw [List.getElem_append_right (by simp; omega)]
    simp [Nat.min_eq_left (show k ≤ L.length by omega)]
  refine ⟨_, r2, c2, _, hst, ?_, ⟨hkx, by rw [hget]; exact ⟨rfl, rfl, rfl⟩⟩, hcc, hk1.mono (fun j _ e => e ▸ h.fb), fun j e => e.imp id (fun e => e.1), (hk1.block _ (block_lt hb) hnb).trans hb⟩
  rw [placeI_ins hp, List.map_append, List.map_append, List.map_cons, List.map_cons, List.map_take, List.map_take, List.map_drop, List.map_drop, hc]
  rfl
end
section
variable {w : World} {F : Nat → Prop} {bb : Nat} {R : List (Int × HeardC)}
set_option maxRecDepth 100000 in
set_option maxHeartbeats 16000000 in
theorem rnote_new (b : BatchC) (h : RPst w F bb R) (hd : KD R) (ho : SortI R) (hb : mayB b = true) (hE : ¬ b.epoch < (oldH R b.prod).epoch) (ha : aget R b.prod = none) (hl : R.length ≤ 100000) (X : HeardC) (hX : addH (newHd b.epoch) (sentB b) = X) : Calls Try.prog 13 #[.pointer (some ⟨bb, 0, none⟩), .agg #[.int .i64 b.base, .int .i64 b.span, .int .i64 b.prod, .int .i64 b.epoch, .int .i64 b.seq, .slice b.ra b.rn b.rc]] w fun e w' => e = .returned (.tuple #[]) ∧ RPpost w F bb (aput (insI R b.prod (newHd b.epoch)) b.prod X) w' := by
  have HX := Lib.hid hX
  have HKD : Hid (KD (insI R b.prod (newHd b.epoch))) := (ho.ins ha _).kd
  have HNB : Hid (∀ WB, WB = w.alloc (.cells #[.int .i64 b.base, .int .i64 b.span, .int .i64 b.prod, .int .i64 b.epoch, .int .i64 b.seq, .slice b.ra b.rn b.rc] 31) → ¬ w.heap.size = bb) := fun _ _ => by
    obtain ⟨v, L, h9, _⟩ := h
    have := block_lt h9.blk
    omega
  clear hX
  have hB : (w.alloc (.cells (bcells b) 31)).heap[w.heap.size]? = some (.cells (bcells b) 31 (0, 0)) := heap_new _ _ _ rfl
  have hK : K0 w (w.alloc (.cells (bcells b) 31)) := (Keeps.refl _ _).alloc _
  have HH := Lib.hid (h.keep hK (fun _ _ e => e))
  unfold bcells at hB hK HH
  have HB := Lib.hid hB
  have HK := Lib.hid hK
  have HM : Hid (∀ wx, Calls Try.prog 28 #[.agg #[.int .i64 b.base, .int .i64 b.span, .int .i64 b.prod, .int .i64 b.epoch, .int .i64 b.seq, .slice b.ra b.rn b.rc]] wx fun e w' => Same wx e (.bool true) w') := fun wx => by rw [← hb]; exact numbers_any b wx
  clear hB hK h
  go_enter Try.func13, Try.ntmps13
  go_upto_region 1 with fail
  generalize hWB : w.alloc (.cells #[.int .i64 b.base, .int .i64 b.span, .int .i64 b.prod, .int .i64 b.epoch, .int .i64 b.seq, .slice b.ra b.rn b.rc] 31) = WB at HH HB HK ⊢
  have HE : Hid (∀ wx, K0 WB wx → Calls Try.prog 15 #[.pointer (some ⟨bb, 0, none⟩), .int .i64 b.prod] wx fun e w' => e = .returned (.int .i64 (oldH R b.prod).epoch) ∧ w' = wx) := fun wx hk => repoch_any b.prod (HH.out.keep hk (fun _ _ e => e)) hd
  have hkd : K0 WB WB.drew := (Keeps.refl _ _).drew
  have bd : WB.drew.heap[w.heap.size]? = some (.cells #[.int .i64 b.base, .int .i64 b.span, .int .i64 b.prod, .int .i64 b.epoch, .int .i64 b.seq, .slice b.ra b.rn b.rc] 31 (0, 0)) := HB.out
  have p0 : WB.drew.cell? ⟨w.heap.size, 0, none⟩ = some (.int .i64 b.base) := block_cell bd 0
  have p1 : WB.drew.cell? ⟨w.heap.size, 1, none⟩ = some (.int .i64 b.span) := block_cell bd 1
  have p2 : WB.drew.cell? ⟨w.heap.size, 2, none⟩ = some (.int .i64 b.prod) := block_cell bd 2
  have p3 : WB.drew.cell? ⟨w.heap.size, 3, none⟩ = some (.int .i64 b.epoch) := block_cell bd 3
  have p4 : WB.drew.cell? ⟨w.heap.size, 4, none⟩ = some (.int .i64 b.seq) := block_cell bd 4
  have p5 : WB.drew.cell? ⟨w.heap.size, 5, none⟩ = some (.slice b.ra b.rn b.rc) := block_cell bd 5
  have pl : w.heap.size < WB.drew.heap.size := block_lt bd
  clear bd
  go_region_held3 (fun w' => w'.cell? ⟨w.heap.size, 0, none⟩ = some (.int .i64 b.base) ∧ w'.cell? ⟨w.heap.size, 1, none⟩ = some (.int .i64 b.span) ∧ w'.cell? ⟨w.heap.size, 2, none⟩ = some (.int .i64 b.prod) ∧ w'.cell? ⟨w.heap.size, 3, none⟩ = some (.int .i64 b.epoch) ∧ w'.cell? ⟨w.heap.size, 4, none⟩ = some (.int .i64 b.seq) ∧ w'.cell? ⟨w.heap.size, 5, none⟩ = some (.slice b.ra b.rn b.rc) ∧ K0 WB w')
    (first | go_keep | (go_split_ands; refine ⟨?_, ?_, ?_, ?_, ?_, ?_, ?_⟩ <;> first | assumption | exact Keeps.cell' (by assumption) (by assumption) (fun e => e) | exact K0.tr (by assumption) (by assumption)))
    (first | (go_at_call 28; refine (HM.out _).mono ?_; rintro e w' ⟨he, hk⟩; subst he) | (go_at_call 15; go_split_ands; refine (HE.out _ (by assumption)).mono ?_; rintro e w' ⟨he, hw⟩; subst he; subst hw))
  go_split_ands
  have kk : K0 WB w' := by assumption
  have bx := (kk.block _ (block_lt HB.out) (fun e => e)).trans HB.out
  have HK1 := Lib.hid (K0.tr HK.out kk)
  have HKK := Lib.hid kk
  have h1 := HH.out.keep kk (fun _ _ e => e)
  have c0 : w'.cell? ⟨w.heap.size, 0, none⟩ = some (.int .i64 b.base) := block_cell bx 0
  have c1 : w'.cell? ⟨w.heap.size, 1, none⟩ = some (.int .i64 b.span) := block_cell bx 1
  have c2 : w'.cell? ⟨w.heap.size, 2, none⟩ = some (.int .i64 b.prod) := block_cell bx 2
  have c3 : w'.cell? ⟨w.heap.size, 3, none⟩ = some (.int .i64 b.epoch) := block_cell bx 3
  have c4 : w'.cell? ⟨w.heap.size, 4, none⟩ = some (.int .i64 b.seq) := block_cell bx 4
  have cl := block_lt bx
  have HBX := Lib.hid bx
  obtain ⟨v, L, h2, hc⟩ := h1
  have x0 : w'.cell? ⟨bb, 0, none⟩ = some v := block_cell h2.blk 0
  have xl := block_lt h2.blk
  clear kk bx hkd p0 p1 p2 p3 p4 p5 pl
  have HF := Lib.hid (rfind_none h2 hc ha)
  have HL := Lib.hid (core_len hc)
  have HC := Lib.hid hc
  have hll : L.length ≤ 100000 := by rw [HL.out]; exact hl
  have HON := Lib.hid h2.one
  have HTK : Hid (∀ wx, K0 w' wx → RPF w' wx w.heap.size bb b v) := fun wx hk => h2.rpf HBX.out hk
  have HFIN : Hid (∀ w4 va vc k, PlaceI R b.prod k → K0 w' w4 → w4.ownsRow w'.heap.size 71 3 (.slice va (L.length + 1) vc) (L.length + 1) ((L.take k).flatMap encI ++ encI (newO b) ++ (L.drop k).flatMap encI) → NewRel w w' F w.heap.size bb R b k (w4.setCell ⟨bb, 0, none⟩ (.slice va (L.length + 1) vc))) := by
    show ∀ _ _ _ _, _ → _ → _ → _
    intro w4 va vc k hp hk ho4
    exact newRel h2 hc HBX.out (HNB.out _ rfl) hp hk ho4
  have fx := block_free h2.blk 0
  have hown0 : w'.ownsRow w'.heap.size 71 3 (.slice none 0 0) 0 [] := World.ownsRow_nil _ _ _ _
  have hform := h2.form
  have H2 := Lib.hid h2
  clear h2 hc ha hd ho
  go_wp2_with fail
  refine HF.out.mono ?_
  rintro e w2 ⟨rfl, rfl⟩
  go_upto_if 25 with fail
  go_cut [4] (fun iv wc => ∃ k : Nat, iv = .int .i64 k ∧ NewRel w w2 F w.heap.size bb R b k wc)
  case first =>
    rcases hform with ⟨hnil, rfl⟩ | ⟨r, cap, rfl, hrb, hrl, hcap, hFr, hcm⟩
    · have HN := Lib.hid hnil
      rw [hnil] at hll
      clear hnil
      go_wp2
      refine wp_loop_once ?_
      go_wp2
      go_quiet (fail)
      generalize hwq : w2.drewN _ = wq
      have hkq : K0 w2 wq := by rw [← hwq]; exact (Keeps.refl _ _).drewN _
      have hown0 : wq.ownsRow w2.heap.size 71 3 (.slice none 0 0) 0 [] := World.ownsRow_nil _ _ _ _
      obtain ⟨_, s0, s1, s2, s3, s4, s5⟩ := HTK.out wq hkq
      have hzq := hkq.size
      clear hwq
      go_wp2_with (at_builtin; first | (refine wpList_appZ rfl rfl Try.underlying26 infoOneI rfl hown0 rfl ?_) | (refine wpList_app1 rfl rfl Try.underlying26 infoOneI rfl (by decide) rfl (hown0.alloc _) rfl (heap_new _ _ _ rfl) rfl rfl ⟨by omega, by decide⟩ (by first | (simp; done) | (simp; omega)) ?_; intro g2 c2' w3 hA2; have hk2 : K0 w2 w3 := (hkq.alloc _).grown hA2.grown (fun k e => by cases e); have HK2 := Lib.hid hk2; have ho2 := hA2.own; have HV2 := Lib.hid ho2; obtain ⟨_, y0, y1, y2, y3, y4, y5⟩ := HTK.out w3 hk2; clear hk2 hA2) | (refine wpList_appZ rfl rfl Try.underlying26 infoOneI rfl ho2 rfl ?_; clear ho2))
      go_meet
      case rel =>
        have hR0 : R = [] := List.eq_nil_of_length_eq_zero (by rw [← HL.out, HN.out]; rfl)
        refine ⟨0, rfl, ?_⟩
        have h9 := HFIN.out _ (some ⟨g2, 0, none⟩) c2' 0 (by rw [hR0]; exact ⟨Nat.le_refl _, fun j hj => absurd hj (Nat.not_lt_zero _), fun h => absurd h (Nat.not_lt_zero _)⟩) HK2.out
        rw [HN.out] at h9
        exact h9 HV2.out
    · go_wp2
      go_loopw [4] (fun i wr => ∃ k : Nat, i = .int .i64 k ∧ k ≤ L.length ∧ (∀ j (hj : j < R.length), j < k → R[j].1 < b.prod) ∧ K0 w2 wr) (fun i _ => L.length - (intOf i).toNat)
      case atStart => exact ⟨0, rfl, by omega, fun j _ h => absurd h (Nat.not_lt_zero _), Keeps.refl _ _⟩
      case round =>
        obtain ⟨k, rfl, hkL, hq, hkr⟩ := hrel
        have HQ := Lib.hid hq
        have HKR : Hid (∀ nq, K0 w2 (wr.drewN nq)) := fun nq => hkr.drewN nq
        obtain ⟨_, r0, r1, r2, r3, r4, r5⟩ := HTK.out wr hkr
        have hrl2 : r < wr.heap.size := Nat.lt_of_lt_of_le hrl hkr.size
        clear hq
        have i0 : (0 : Int) ≤ k := by omega
        by_cases hlt2 : k < L.length
        · have q0 := hkr.cell' (H2.out.cell rfl k hlt2).1 (fun e => e)
          have hrk : k < R.length := by rw [← HL.out]; exact hlt2
          rw [(core_at HC.out hlt2 hrk).1] at q0
          have i1 : (k : Int) < L.length := by omega
          by_cases hlo : R[k].1 < b.prod
          · have HD := Lib.hid hlo
            generalize R[k].1 = xk at q0 hlo
            have HLT := Lib.hid hlt2
            clear hkr
            go_wp2
            go_quiet (fail)
            go_wp2
            go_roundw
            case rel => exact ⟨k + 1, by go_num, HLT.out, fun j hj h2 => (Nat.lt_succ_iff_lt_or_eq.1 h2).elim (HQ.out j hj) fun e => by subst e; exact HD.out, HKR.out _⟩
            case measure => have := HLT.out; simp [intOf]; omega
          · have HPL : Hid (PlaceI R b.prod k) := ⟨by rw [← HL.out]; exact hkL, HQ.out, fun _ => hlo⟩
            generalize R[k].1 = xk at q0 hlo
            have hkk := hkL
            clear hkr
            go_wp2
            go_quiet (fail)
            generalize hwq : wr.drewN _ = wq
            have hkq : K0 w2 wq := by rw [← hwq]; exact HKR.out _
            have hown0 : wq.ownsRow w2.heap.size 71 3 (.slice none 0 0) 0 [] := World.ownsRow_nil _ _ _ _
            obtain ⟨_, s0, s1, s2, s3, s4, s5⟩ := HTK.out wq hkq
            have hzq := hkq.size
            clear hwq r0 r1 r2 r3 r4 r5
            try clear q0
            have HNN : Hid (∀ wx, K0 w2 wx → RPN wx r L k) := fun wx hk => H2.out.rpn hk k
            have hn1 := (HNN.out wq hkq).n1
            have hl1 : ((L.take k).flatMap encI).length = k * 3 := by rw [flat_len encI 3 encI_len, List.length_take]; congr 1; omega
            have hl2 : ((L.drop k).flatMap encI).length = (L.length - k) * 3 := by rw [flat_len encI 3 encI_len, List.length_drop]
            have hc1 : ∀ u ∈ (L.take k).flatMap encI, u.oneCell' = true := fun u hu => by
              obtain ⟨y, hy, hu⟩ := List.mem_flatMap.1 hu
              exact HON.out y (List.mem_of_mem_take hy) u hu
            have hc2 : ∀ u ∈ (L.drop k).flatMap encI, u.oneCell' = true := fun u hu => by
              obtain ⟨y, hy, hu⟩ := List.mem_flatMap.1 hu
              exact HON.out y (List.mem_of_mem_drop hy) u hu
            have k1 : (k : Int) ≤ cap := by omega
            have k2 : (k : Int) ≤ L.length := by omega
            have k4 : (L.length : Int) ≤ cap := by omega
            have hce : ¬ cap = k := by omega
            go_wp2_with (at_builtin; first | (refine wpList_appN rfl rfl Try.underlying26 infoOneI rfl (by decide) rfl hown0 rfl hl1 hn1 hc1 ⟨by omega, by decide⟩ hkq.size ?_; intro v1 w3 hv1 hg1; simp only [Nat.zero_add, List.nil_append] at hv1; obtain ⟨va1, vc1, rfl⟩ := own_slice hv1; have hk1 : K0 w2 w3 := K0.tr hkq (grown1 hg1); have hz1 := hk1.size; obtain ⟨_, t0, t1, t2, t3, t4, t5⟩ := HTK.out w3 hk1; clear hn1) | (refine wpList_app1 rfl rfl Try.underlying26 infoOneI rfl (by decide) rfl (hv1.alloc _) rfl (heap_new _ _ _ rfl) rfl rfl ⟨by omega, by decide⟩ (by first | (simp; done) | (simp; omega)) ?_; intro g2 c2' w4 hA2; have hk2 : K0 w2 w4 := (hk1.alloc _).grown hA2.grown (fun k e hlt => absurd (hv1.lt k e).1 (by omega)); have hz2 := hk2.size; have ho2 := hA2.own; have y6 := (HNN.out w4 hk2).n2; obtain ⟨_, y0, y1, y2, y3, y4, y5⟩ := HTK.out w4 hk2; clear t0 t1 t2 t3 t4 t5 hv1 hg1 hA2) | (refine wpList_appN rfl rfl Try.underlying26 infoOneI rfl (by decide) rfl ho2 rfl hl2 y6 hc2 ⟨by omega, by decide⟩ hz2 ?_; intro v3 w5 hv3 hg3; obtain ⟨va3, vc3, rfl⟩ := own_slice hv3; have hk3 : K0 w2 w5 := hk2.grown hg3 (fun k e hlt => absurd (ho2.lt k e).1 (by omega)); have HK3 := Lib.hid hk3; have HV3 := Lib.hid hv3; obtain ⟨_, z0, z1, z2, z3, z4, z5⟩ := HTK.out w5 hk3; clear y0 y1 y2 y3 y4 y5 y6 hv3 hg3 ho2))
            go_meet
            case rel =>
              refine ⟨k, rfl, ?_⟩
              have h9 := HV3.out
              rw [show k + 1 + (L.length - k) = L.length + 1 by omega] at h9
              have h8 := HFIN.out _ va3 vc3 k HPL.out HK3.out h9
              rw [show L.length + 1 = k + 1 + (L.length - k) by omega] at h8
              exact h8
        · have HPL : Hid (PlaceI R b.prod k) := ⟨by rw [← HL.out]; exact hkL, HQ.out, fun h => absurd (by rw [HL.out]; exact h) hlt2⟩
          have i1 : ¬ (k : Int) < L.length := by omega
          have hkk := hkL
          clear hkr
          go_wp2
          go_quiet (fail)
          generalize hwq : wr.drewN _ = wq
          have hkq : K0 w2 wq := by rw [← hwq]; exact HKR.out _
          have hown0 : wq.ownsRow w2.heap.size 71 3 (.slice none 0 0) 0 [] := World.ownsRow_nil _ _ _ _
          obtain ⟨_, s0, s1, s2, s3, s4, s5⟩ := HTK.out wq hkq
          have hzq := hkq.size
          clear hwq r0 r1 r2 r3 r4 r5
          try clear q0
          have HNN : Hid (∀ wx, K0 w2 wx → RPN wx r L k) := fun wx hk => H2.out.rpn hk k
          have hn1 := (HNN.out wq hkq).n1
          have hl1 : ((L.take k).flatMap encI).length = k * 3 := by rw [flat_len encI 3 encI_len, List.length_take]; congr 1; omega
          have hl2 : ((L.drop k).flatMap encI).length = (L.length - k) * 3 := by rw [flat_len encI 3 encI_len, List.length_drop]
          have hc1 : ∀ u ∈ (L.take k).flatMap encI, u.oneCell' = true := fun u hu => by
            obtain ⟨y, hy, hu⟩ := List.mem_flatMap.1 hu
            exact HON.out y (List.mem_of_mem_take hy) u hu
          have hc2 : ∀ u ∈ (L.drop k).flatMap encI, u.oneCell' = true := fun u hu => by
            obtain ⟨y, hy, hu⟩ := List.mem_flatMap.1 hu
            exact HON.out y (List.mem_of_mem_drop hy) u hu
          have k1 : (k : Int) ≤ cap := by omega
          have k2 : (k : Int) ≤ L.length := by omega
          have k4 : (L.length : Int) ≤ cap := by omega
          by_cases hce : cap = k
          · obtain rfl : k = L.length := by omega
            subst hce
            have hdn : (L.drop L.length).flatMap encI = [] := by rw [List.drop_length]; rfl
            have HDN := Lib.hid hdn
            clear hdn k1 k2 k4 hl2
            go_wp2_with (at_builtin; first | (refine wpList_appN rfl rfl Try.underlying26 infoOneI rfl (by decide) rfl hown0 rfl hl1 hn1 hc1 ⟨by omega, by decide⟩ hkq.size ?_; intro v1 w3 hv1 hg1; simp only [Nat.zero_add, List.nil_append] at hv1; obtain ⟨va1, vc1, rfl⟩ := own_slice hv1; have hk1 : K0 w2 w3 := K0.tr hkq (grown1 hg1); have hz1 := hk1.size; obtain ⟨_, t0, t1, t2, t3, t4, t5⟩ := HTK.out w3 hk1; clear hn1) | (refine wpList_app1 rfl rfl Try.underlying26 infoOneI rfl (by decide) rfl (hv1.alloc _) rfl (heap_new _ _ _ rfl) rfl rfl ⟨by omega, by decide⟩ (by first | (simp; done) | (simp; omega)) ?_; intro g2 c2' w4 hA2; have hk2 : K0 w2 w4 := (hk1.alloc _).grown hA2.grown (fun k e hlt => absurd (hv1.lt k e).1 (by omega)); have hz2 := hk2.size; have ho2 := hA2.own; have y6 := (HNN.out w4 hk2).n2; obtain ⟨_, y0, y1, y2, y3, y4, y5⟩ := HTK.out w4 hk2; clear t0 t1 t2 t3 t4 t5 hv1 hg1 hA2) | (refine wpList_appZ rfl rfl Try.underlying26 infoOneI rfl ho2 rfl ?_; have HK3 := Lib.hid hk2; have HV3 := Lib.hid ho2; clear ho2))
            go_meet
            case rel =>
              refine ⟨_, rfl, HFIN.out _ (some ⟨g2, 0, none⟩) c2' _ HPL.out HK3.out ?_⟩
              rw [HDN.out, List.append_nil]
              exact HV3.out
          · go_wp2_with (at_builtin; first | (refine wpList_appN rfl rfl Try.underlying26 infoOneI rfl (by decide) rfl hown0 rfl hl1 hn1 hc1 ⟨by omega, by decide⟩ hkq.size ?_; intro v1 w3 hv1 hg1; simp only [Nat.zero_add, List.nil_append] at hv1; obtain ⟨va1, vc1, rfl⟩ := own_slice hv1; have hk1 : K0 w2 w3 := K0.tr hkq (grown1 hg1); have hz1 := hk1.size; obtain ⟨_, t0, t1, t2, t3, t4, t5⟩ := HTK.out w3 hk1; clear hn1) | (refine wpList_app1 rfl rfl Try.underlying26 infoOneI rfl (by decide) rfl (hv1.alloc _) rfl (heap_new _ _ _ rfl) rfl rfl ⟨by omega, by decide⟩ (by first | (simp; done) | (simp; omega)) ?_; intro g2 c2' w4 hA2; have hk2 : K0 w2 w4 := (hk1.alloc _).grown hA2.grown (fun k e hlt => absurd (hv1.lt k e).1 (by omega)); have hz2 := hk2.size; have ho2 := hA2.own; have y6 := (HNN.out w4 hk2).n2; obtain ⟨_, y0, y1, y2, y3, y4, y5⟩ := HTK.out w4 hk2; clear t0 t1 t2 t3 t4 t5 hv1 hg1 hA2) | (refine wpList_appN rfl rfl Try.underlying26 infoOneI rfl (by decide) rfl ho2 rfl hl2 y6 hc2 ⟨by omega, by decide⟩ hz2 ?_; intro v3 w5 hv3 hg3; obtain ⟨va3, vc3, rfl⟩ := own_slice hv3; have hk3 : K0 w2 w5 := hk2.grown hg3 (fun k e hlt => absurd (ho2.lt k e).1 (by omega)); have HK3 := Lib.hid hk3; have HV3 := Lib.hid hv3; obtain ⟨_, z0, z1, z2, z3, z4, z5⟩ := HTK.out w5 hk3; clear y0 y1 y2 y3 y4 y5 y6 hv3 hg3 ho2))
            go_meet
            case rel =>
              refine ⟨k, rfl, ?_⟩
              have h9 := HV3.out
              rw [show k + 1 + (L.length - k) = L.length + 1 by omega] at h9
              have h8 := HFIN.out _ va3 vc3 k HPL.out HK3.out h9
              rw [show L.length + 1 = k + 1 + (L.length - k) by omega] at h8
              exact h8
  case rest =>
    obtain ⟨k, rfl, F1, r, cap, L1, h1, hc1, ⟨hkl, q0, q1, q2⟩, hcp, hkc, hF1, hbx⟩ := hcut
    have hHF1 : ∀ j, F1 j → F j ∨ w.heap.size ≤ j := fun j e => (hF1 j e).imp id (fun e => Nat.le_trans HK1.out.size e)
    have hHK1 : Keeps F w wc := (HK1.out.mono (S1 := F) (fun _ _ e => e.elim)).trans hkc (fun _ _ e => e)
    have hll1 := core_len hc1
    have hkR : k < (insI R b.prod (newHd b.epoch)).length := by rw [← hll1]; exact hkl
    have hid := (core_at hc1 hkl hkR).1
    rw [q0] at hid
    have HFIN2 : Hid (∀ w5 nlv H', K0 wc w5 → WinE w5 (fun j => wc.heap.size ≤ j) nlv (winL H') → RPpost w F bb (aput (insI R b.prod (newHd b.epoch)) b.prod H') (((w5.setCell ⟨r, k * 3, none⟩ (.int .i64 b.prod)).setCell ⟨r, k * 3 + 1, none⟩ (.int .i64 H'.epoch)).setCell ⟨r, k * 3 + 2, none⟩ nlv)) := by
      show ∀ _ _ _, _ → _ → _
      intro w5 nlv H' hk5 hw5
      have := h1.noted hc1 HKD.out hkR hk5 hw5
      rw [← hid] at this
      exact RPpost.trans hHF1 hHK1 this
    obtain ⟨y0, y1, y2⟩ := h1.cell rfl k hkl
    rw [q0] at y0
    rw [q1] at y1
    rw [q2] at y2
    have x0 : wc.cell? ⟨bb, 0, none⟩ = some (.slice (some ⟨r, 0, none⟩) L1.length cap) := block_cell h1.blk 0
    have xl := block_lt h1.blk
    have c0 : wc.cell? ⟨w.heap.size, 0, none⟩ = some (.int .i64 b.base) := block_cell hbx 0
    have c1 : wc.cell? ⟨w.heap.size, 1, none⟩ = some (.int .i64 b.span) := block_cell hbx 1
    have c2 : wc.cell? ⟨w.heap.size, 2, none⟩ = some (.int .i64 b.prod) := block_cell hbx 2
    have c3 : wc.cell? ⟨w.heap.size, 3, none⟩ = some (.int .i64 b.epoch) := block_cell hbx 3
    have c4 : wc.cell? ⟨w.heap.size, 4, none⟩ = some (.int .i64 b.seq) := block_cell hbx 4
    have cl := block_lt hbx
    have i0 : (0 : Int) ≤ k := by omega
    have i1 : (k : Int) < L1.length := by omega
    have hown0 : wc.ownsRow (wc.heap.size + 1) 73 3 (.slice none 0 0) 0 [] := World.ownsRow_nil _ _ _ _
    obtain ⟨rcur, rblk⟩ : ∃ cur, wc.heap[r]? = some (.cells cur 71 (0, 0)) := by
      rcases h1.row.2 with ⟨h1, h2⟩ | ⟨r2, cap2, cur, h1, _, hg, _⟩
      · cases h1
      · simp only [Value.slice.injEq, Option.some.injEq, Addr.mk.injEq, and_true] at h1
        rw [← h1.1] at hg
        exact ⟨cur, hg⟩
    have fr0 := block_free rblk (k * 3)
    have fr1 := block_free rblk (k * 3 + 1)
    have fr2 := block_free rblk (k * 3 + 2)
    have hrl := block_lt rblk
    have e1 : (b.epoch == b.epoch) = true := by simp
    have hmx1 : cap ≤ 9223372036854775807 := by
      rcases h1.row.2 with ⟨h1, h2⟩ | ⟨r2, cap2, cur, h1, _, hg, _, hm, _⟩
      · cases h1
      · simp only [Value.slice.injEq] at h1
        unfold maxLen at hm
        omega
    have HWX : Hid (winL X = [sentB b] ∧ X.epoch = b.epoch) := by
      show _ ∧ _
      rw [← HX.out]
      exact ⟨by rw [winL_add (newHd_ok _)]; rfl, rfl⟩
    clear rblk h1 hc1 q0 q1 q2 hid hHF1 hHK1 hbx hkc hF1 fx
    have hwin : (1 : Int) ≤ 5 := by decide
    go_wp2_with (at_builtin; first | (refine wpList_appZ rfl rfl Try.underlying69 infoSent rfl (hown0.alloc _) rfl ?_) | (refine wpList_app1 rfl rfl Try.underlying69 infoSent rfl (by decide) rfl ((hown0.alloc _).alloc _) rfl (heap_new _ _ _ (by simp)) rfl rfl ⟨by omega, by decide⟩ (by first | (simp; done) | (simp; omega)) ?_; intro g4 c4' w4 hA4; have HA4 := Lib.hid hA4; have hk4 : K0 wc w4 := Keeps.grown (((Keeps.refl _ _).alloc _).alloc _) hA4.grown (fun k e hlt => by cases e); have HK4 := Lib.hid hk4; have o4 : w4.heap[wc.heap.size]? = _ := hA4.far (block_alloc (heap_new _ _ _ rfl) _) (fun e => by cases e); have HO4 := Lib.hid o4; have n0 := block_cell o4 2; have n1 := block_free o4 2; have n2 := block_lt o4; have n4 : w4.cell? ⟨bb, 0, none⟩ = some (.slice (some ⟨r, 0, none⟩) L1.length cap) := hk4.cell' x0 (fun e => e); clear hA4 hk4 o4))
    have HWV : Hid (WinE w4 (fun k => wc.heap.size ≤ k ∧ ¬ k = wc.heap.size) (.slice (some ⟨g4, 0, none⟩) 1 c4') (winL X)) := by
      show WinE _ _ _ _
      rw [HWX.out.1]
      obtain ⟨q1, q2, q3, q4, q5⟩ := win_own (ws := [sentB b]) HA4.out.own rfl (by decide)
      exact .inr ⟨g4, 0, c4', rfl, q1, q2, q4, ⟨by omega, by omega⟩, fun q u e => by rw [Nat.zero_add]; exact q5 q u e⟩
    obtain ⟨W, hW⟩ : ∃ W : World, W = w4.setCell ⟨wc.heap.size, 2, none⟩ (.slice (some ⟨g4, 0, none⟩) 1 c4') := ⟨_, rfl⟩
    rw [← hW]
    have hkW : K0 wc W := by rw [hW]; exact (HK4.out.mono (S1 := fun k => k = wc.heap.size) (fun _ _ e => e.elim)).setC 2 _ (fun _ => rfl) |>.none (fun k hk e => by have e : k = wc.heap.size := e; omega)
    have hoW : W.heap[wc.heap.size]? = some (.cells #[.int .i64 b.prod, .int .i64 b.epoch, (.slice (some ⟨g4, 0, none⟩) 1 c4')] 71 (0, 0)) := by rw [hW]; exact setCell_block HO4.out 2 _
    have hwW : WinE W (fun k => wc.heap.size ≤ k) (.slice (some ⟨g4, 0, none⟩) 1 c4') (winL X) := by
      rw [hW]
      exact HWV.out.keep (S := fun k => k = wc.heap.size) ((Keeps.refl _ _).setC 2 _ (fun _ => rfl)) (fun k _ e e2 => e.2 e2) (fun k _ e => e.1)
    have HKW := Lib.hid hkW
    have HWW := Lib.hid hwW
    have hkd : K0 wc W.drew := hkW.drew
    have z0 : W.drew.cell? ⟨wc.heap.size, 0, none⟩ = some (.int .i64 b.prod) := block_cell hoW 0
    have z1 : W.drew.cell? ⟨wc.heap.size, 1, none⟩ = some (.int .i64 b.epoch) := block_cell hoW 1
    have z2 : W.drew.cell? ⟨wc.heap.size, 2, none⟩ = some ((.slice (some ⟨g4, 0, none⟩) 1 c4')) := block_cell hoW 2
    have zl : wc.heap.size < W.drew.heap.size := block_lt hoW
    have z3 : W.drew.cell? ⟨bb, 0, none⟩ = some (.slice (some ⟨r, 0, none⟩) L1.length cap) := hkd.cell' x0 (fun e => e)
    have z4 : bb < W.drew.heap.size := Nat.lt_of_lt_of_le xl hkd.size
    have z5 := hkd.cell' y0 (fun e => e)
    have u5 := HKW.out.cell' y0 (fun e => e)
    have u6 := HKW.out.cell' y1 (fun e => e)
    have u7 := HKW.out.cell' y2 (fun e => e)
    have v0 : W.frozen? ⟨r, k * 3, none⟩ = false := (HKW.out.frozen hrl (fun e => e)).trans fr0
    have v1 : W.frozen? ⟨r, k * 3 + 1, none⟩ = false := (HKW.out.frozen hrl (fun e => e)).trans fr1
    have v2 : W.frozen? ⟨r, k * 3 + 2, none⟩ = false := (HKW.out.frozen hrl (fun e => e)).trans fr2
    have z6 := hkd.cell' y1 (fun e => e)
    have z7 := hkd.cell' y2 (fun e => e)
    have z8 : r < W.drew.heap.size := Nat.lt_of_lt_of_le hrl hkd.size
    have f0 : W.drew.frozen? ⟨r, k * 3, none⟩ = false := (hkd.frozen hrl (fun e => e)).trans fr0
    have f1 : W.drew.frozen? ⟨r, k * 3 + 1, none⟩ = false := (hkd.frozen hrl (fun e => e)).trans fr1
    have f2 : W.drew.frozen? ⟨r, k * 3 + 2, none⟩ = false := (hkd.frozen hrl (fun e => e)).trans fr2
    have HFN := Lib.hid (HFIN2.out W.drew ((.slice (some ⟨g4, 0, none⟩) 1 c4')) X hkd (hwW.keep (S := fun _ => False) (Keeps.refl _ _).drew (fun _ _ _ e => e) (fun _ _ e => e)))
    rw [HWX.out.2] at HFN
    clear hW hkW hoW hwW hkd  fr0 fr1 fr2 x0 xl y0 y1 y2
    go_region
    go_wp2
    go_end0
    exact ⟨rfl, HFN.out⟩
theorem rnote_any (b : BatchC) (h : RPst w F bb R) (ho : SortI R) (wf : WfM R) (hl : R.length ≤ 100000) : Calls Try.prog 13 #[.pointer (some ⟨bb, 0, none⟩), .agg #[.int .i64 b.base, .int .i64 b.span, .int .i64 b.prod, .int .i64 b.epoch, .int .i64 b.seq, .slice b.ra b.rn b.rc]] w fun e w' => e = .returned (.tuple #[]) ∧ RPpost w F bb (noteS R b) w' := by
  unfold noteS
  cases hb : mayB b with
  | false =>
    rw [if_neg (by simp)]
    exact (rnote_bad b h hb).mono fun e w' hq => ⟨hq.1, RPpost.same h hq.2⟩
  | true =>
    rw [if_pos rfl]
    by_cases hE : b.epoch < (oldH R b.prod).epoch
    · rw [if_pos hE]
      exact (rnote_old b h ho.kd hb hE).mono fun e w' hq => ⟨hq.1, RPpost.same h hq.2⟩
    · rw [if_neg hE]
      have hep := (mayB_all hb).2.1
      cases ha : aget R b.prod with
      | some H =>
        have hoo : oldH R b.prod = H := by unfold oldH; rw [ha]; rfl
        rw [hoo] at hE ⊢
        exact rnote_put b H h ho.kd hb (by rw [hoo]; exact hE) ha (wf _ _ ha).2 _ rfl
      | none =>
        have hoo : oldH R b.prod = noneH := by unfold oldH; rw [ha]; rfl
        rw [hoo, if_neg (by show ¬ -1 = b.epoch; omega)]
        exact rnote_new b h ho.kd ho hb hE ha hl _ rfl
end
end Go.Proofs.Ytbjpifipjcfhkaa
