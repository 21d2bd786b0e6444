/-
  The reference's Range: it computes what the package assign's does.
-/
import Derived.Test.YtklhlffdpojkoaaGreatJ12
import Derived.Deep.DeepCutAuto
namespace Go.Proofs.YtklhlffdpojkoaaGreat
open Go.RowKit Fx

/-- In the middle of a topic: shares that are owned, whose footprint was Ft at world wt. -/
def MidS (wt : World) (v : Value) (Ft : Nat → Prop) (l : List ShareC) (wq : World) : Prop :=
  ∃ F vs, SharesAt wq F v l vs ∧ Keeps Ft wt wq ∧ ∀ j, F j → Ft j ∨ wt.heap.size ≤ j
def OutS (w : World) (v : Value) (l : List ShareC) (wr : World) : Prop :=
  ∃ F vs, SharesAt wr F v l vs ∧ (∀ j, F j → w.heap.size ≤ j) ∧ K0 w wr
/-- What a region that gives one partition has to look at, and what it leaves. -/
structure GiveSite (wq : World) (g : Nat) (l : List ShareC) (m : Nat) (pv : Value) (nn : Nat) (xs : List Value) : Prop where
  cell : wq.cell? ⟨g, m * 2 + 1, none⟩ = some pv
  free : wq.frozen? ⟨g, m * 2 + 1, none⟩ = false
  own : wq.ownsRow 0 34 2 pv nn xs
  ne : pv.ownBlock ≠ some g
  lt : g < wq.heap.size
theorem GiveSite.after {wq w1 : World} {g m nn : Nat} {l : List ShareC} {pv : Value} {xs xs' : List Value} (h : GiveSite wq g l m pv nn xs) {o : Obj} {g1 cap1 : Nat} (hA : App1 (wq.alloc o).drew 0 34 2 pv nn xs' g1 cap1 w1) :
    w1.cell? ⟨g, m * 2 + 1, none⟩ = some pv ∧ w1.frozen? ⟨g, m * 2 + 1, none⟩ = false ∧ ∀ b o v, wq.cell? ⟨b, o, none⟩ = some v → pv.ownBlock ≠ some b → w1.cell? ⟨b, o, none⟩ = some v := by
  have hgr := grown_alloc (grown_drew hA.grown)
  have hb : w1.heap[g]? = wq.heap[g]? := hgr.block g h.lt (fun e => h.ne e.symm)
  refine ⟨(World.cell?_of_block (w := wq) hb).trans h.cell, (World.frozen?_of_block (w := wq) hb).trans h.free, fun b o v hc hne => ?_⟩
  exact hgr.cell hc (fun e => hne e.symm)
theorem site_of {wq : World} {F : Nat → Prop} {g cap : Nat} {l : List ShareC} {vs : List Value} (h : SharesAt wq F (.slice (some ⟨g, 0, none⟩) l.length cap) l vs) {m : Nat} (hm : m < l.length) :
    GiveSite wq g l m (vs.getD m .nilIface) l[m].parts.length (ptCells l[m].parts) ∧ ∀ b, (vs.getD m .nilIface).ownBlock = some b → F b := by
  have hv : m < vs.length := by rw [h.len]; exact hm
  have e : vs.getD m .nilIface = vs[m] := by simp [List.getD, hv]
  rw [e]
  refine ⟨⟨(h.row.cellAt (m * 2 + 1) (by omega)).trans (shCells_value _ _ _ hv h.len), h.row.frozenAt _, h.parts m hm, ?_, own_lt h.row rfl⟩, fun b hb => h.footP m hv b hb⟩
  rcases h.own m hv with h1 | h1
  · rw [h1]; simp
  · simpa [Value.ownBlock] using h1
theorem MidS.give {wt wq w1 : World} {Ft F : Nat → Prop} {g cap : Nat} {l : List ShareC} {vs : List Value} (h : SharesAt wq F (.slice (some ⟨g, 0, none⟩) l.length cap) l vs) (hk : Keeps Ft wt wq) (hF : ∀ j, F j → Ft j ∨ wt.heap.size ≤ j)
    {m : Nat} (hm : m < l.length) {s : ByteArray} {i : Int} {o : Obj} {g1 cap1 : Nat}
    (hA : App1 (wq.alloc o).drew 0 34 2 (vs.getD m .nilIface) l[m].parts.length (ptCells l[m].parts ++ [.string s, .int .i64 i]) g1 cap1 w1) :
    MidS wt (.slice (some ⟨g, 0, none⟩) l.length cap) Ft (giveL l m s i) (w1.setCell ⟨g, m * 2 + 1, none⟩ (.slice (some ⟨g1, 0, none⟩) (l[m].parts.length + 1) cap1)) := by
  have hv : m < vs.length := by rw [h.len]; exact hm
  have e : vs.getD m .nilIface = vs[m] := by simp [List.getD, hv]
  rw [e] at hA
  have hgr := grown_alloc (grown_drew hA.grown)
  obtain ⟨h1, h2⟩ := h.give hm hv (p := ⟨s, i⟩) rfl hA.own hgr hA.at_ (by simp)
  refine ⟨_, _, h1, hk.trans h2 (fun j hj e => (hF j e).elim id fun e => by omega), ?_⟩
  rintro j (e2 | e2)
  · exact hF j e2
  · rcases hA.at_ with e3 | e3
    · subst e2; exact hF _ (h.footP m hv _ e3)
    · right; have := hk.size; have : g1 = wq.heap.size + 1 := by simpa using e3
      omega
theorem cnt_ref (p n k : Nat) (hk : k < n) : cntOf p n k = p / n + if k < p % n then 1 else 0 := by
  unfold cntOf
  have h1 : p = n * (p / n) + p % n := (Nat.div_add_mod p n).symm
  have h2 : p % n < n := Nat.mod_lt _ (by omega)
  generalize p / n = q at h1 ⊢
  generalize p % n = r at h1 h2 ⊢
  subst h1
  split
  · rw [show n * q + r + n - 1 - k = (r + n - 1 - k) + n * q by omega, Nat.add_mul_div_left _ _ (by omega)]
    have : (r + n - 1 - k) / n = 1 := by
      rw [Nat.div_eq_of_lt_le (k := 1) (by omega) (by omega)]
    omega
  · rw [show n * q + r + n - 1 - k = (r + n - 1 - k) + n * q by omega, Nat.add_mul_div_left _ _ (by omega)]
    rw [Nat.div_eq_of_lt (by omega)]
    omega

theorem block_of_cell {w : World} {b o : Nat} {v : Value} (h : w.cell? ⟨b, o, none⟩ = some v) : b < w.heap.size := World.block_lt_of_cell? w _ h
theorem row_lt {α : Type} {n : Nat} {R : Rdr α} {w : World} {b off k : Nat} {l : List α} (h : RowAt (n + 1) R w b off l) (hk : k < l.length) : b < w.heap.size := by
  obtain ⟨cs, h1, h2, _⟩ := h k hk
  have e := h2 0 (by omega)
  rw [List.getElem?_eq_getElem (by omega)] at e
  exact World.block_lt_of_cell? w _ e
set_option maxRecDepth 100000 in
set_option maxHeartbeats 4000000 in
theorem range10 (w0 w : World) (sa ta : Option Addr) (sc tc : Nat) (subs : List SubC) (tops : List TopC) (hs : SlAt 2 rSub w0 sa sc subs) (ht : SlAt 2 rTop w0 ta tc tops) (hb : Below w0.heap.size w0 w) :
    Calls Tryz.prog 90 #[.slice sa subs.length sc, .slice ta tops.length tc] w (DealPost w (chk subs tops) (rangeL subs tops)) := by
  have HC := Lib.hid (check15 w0 w sa ta sc tc subs tops hs ht hb)
  rcases chk_cases subs tops with hc | hc
  · rw [hc] at HC
    have hok := chk_ok hc
    obtain ⟨l1, l2, l3⟩ := hok
    have HCK := Lib.hid hc
    have HL3 := Lib.hid l3
    have hmt := ht.len
    have HS := Lib.hid hs
    have HT := Lib.hid ht
    have HB := Lib.hid hb
    clear hs ht hb hc l3
    go_enter Tryz.func90, Tryz.ntmps90
    go_wp2_with fail
    refine HC.out.mono ?_
    rintro e w1 ⟨rfl, k1⟩
    go_wp2_with fail
    refine (empty21 w0 w1 sa sc subs HS.out (K0.after k1 HB.out) (by omega)).mono ?_
    rintro e w2 ⟨v, F0, vs0, rfl, hD0, hF0, k2⟩
    have hd0 : OutS w v (rangeTo subs tops 0) w2 := ⟨F0, vs0, by simpa [rangeTo] using hD0, fun j e => by have := hF0 j e; have := k1.size; omega, K0.tr k1 k2⟩
    have hrow := hD0.row
    have hvs : Hid (subs.length = 0 ∨ ∃ g cap, v = .slice (some ⟨g, 0, none⟩) subs.length cap) := by
      by_cases h0 : 0 < subs.length
      · obtain ⟨g, cap, e, _⟩ := hrow.form (by simpa [emptyL] using h0)
        exact .inr ⟨g, cap, by simpa [emptyL] using e⟩
      · exact .inl (by omega)
    clear k1 k2 hF0 hD0 hrow HC
    go_wp2
    go_loopw [8] (fun i wr => ∃ (t : Nat), i = .int .i64 t ∧ t ≤ tops.length ∧ OutS w v (rangeTo subs tops t) wr) (fun i _ => tops.length - (intOf i).toNat)
    case atStart => exact ⟨0, rfl, by omega, hd0⟩
    case round =>
      clear hd0
      obtain ⟨t, rfl, ht, F, vs, hD, hF, hkw⟩ := hrel
      have hbr := hkw.after HB.out
      have HK := Lib.hid hkw
      have HF := Lib.hid hF
      have HD := Lib.hid hD
      clear hF hkw hD
      by_cases hlt : t < tops.length
      · obtain ⟨b, off, rfl, hr'⟩ := HT.out.row hlt
        obtain ⟨c0, c1, hbl⟩ := top_cells hr' hbr t hlt
        obtain ⟨p, hp⟩ : ∃ p : Nat, tops[t].parts = p := ⟨tops[t].parts.toNat, by have := HL3.out t hlt; omega⟩
        have HG : Hid (tops.getD t ⟨⟨#[]⟩, 0⟩ = tops[t]) := by simp [Hid, List.getD, hlt]
        have hp1 := HL3.out t hlt
        rw [hp] at c1 hp1
        have HP := Lib.hid hp
        generalize hsn : tops[t].name = s at c0
        have HN := Lib.hid hsn
        have hbw : Hid (b < w.heap.size) := Nat.lt_of_lt_of_le (row_lt hr' hlt) HB.out.size
        clear hr' hp hsn
        have HTK := Lib.hid (takers17 w0 wr sa sc subs s HS.out hbr (by omega))
        clear hbr
        go_wp2_with fail
        refine HTK.out.mono ?_
        rintro e wt ⟨ta', cap', rfl, hsl, hkt, hfr⟩
        have hx0 := hkt.cell' c0 (fun e => e)
        have hx1 := hkt.cell' c1 (fun e => e)
        have hbF : Hid (¬ F b) := fun e => by
          have h1 := HF.out b e
          have h2 := hbw.out
          omega
        have hsl' := Lib.hid hsl
        have HFR := Lib.hid hfr
        have HKT := Lib.hid hkt
        have hmid0 : Hid (MidS wt v F (rangeTo subs tops t) wt) := ⟨F, vs, HD.out.keep hkt (fun _ _ e => e), Keeps.refl _ _, fun j e => .inl e⟩
        clear hsl hfr hkt HTK c0 c1
        have hnl : (takersL subs s).length ≤ 20 := Nat.le_trans (takeTo_len _ _ _) l1
        generalize htk : takersL subs s = tk at hsl' HFR hnl ⊢
        have HTKL := Lib.hid htk
        clear htk
        have hLO := Lib.hid (LOk.range l1 HL3.out t (by omega))
        generalize hL : rangeTo subs tops t = L at hmid0 hLO
        have HL := Lib.hid hL
        clear hL
        go_wp2
        go_loopw [10, 11] (fun nn i wq => ∃ (k : Nat), i = .int .i64 k ∧ k ≤ tk.length ∧ nn = .int .i64 (serveTo tk s p k L).2 ∧ MidS wt v F (serveTo tk s p k L).1 wq) (fun _ i _ => tk.length - (intOf i).toNat)
        case atStart => exact ⟨0, rfl, by omega, rfl, hmid0.out⟩
        case round =>
          obtain ⟨wo, rfl⟩ : ∃ wo : World, wo = wr := ⟨_, rfl⟩
          obtain ⟨k, rfl, hk, rfl, F1, vs1, hD1, hK1, hF1⟩ := hrel
          by_cases hlt2 : k < tk.length
          · obtain ⟨b2, off2, rfl, hr2⟩ := hsl'.out.row hlt2
            have hb2 : Hid (¬ F b2) := fun e => by have := (HFR.out b2 rfl).1; have := HD.out.lt _ e; omega
            have hr2 := Lib.hid hr2
            have y1 := hK1.cell' hx1 hbF.out
            have hbl1 := block_of_cell y1
            have hm1 : tk[k] < subs.length := by have h5 := HTKL.out; subst h5; exact takers_lt hlt2
            have HLk := Lib.hid (hLO.out.serve (p := p) tk s k)
            have hcl := serve_next tk s p L k
            have hcl2 : k * p ≤ 20 * 16 := Nat.mul_le_mul (by omega) (by omega)
            have hcl3 : (serveTo tk s p k L).2 ≤ 320 := by omega
            have HSU : Hid (serveTo tk s p (k + 1) L = (giveRun tk[k] s (cntOf p tk.length k) (serveTo tk s p k L).2 (serveTo tk s p k L).1, (serveTo tk s p k L).2 + cntOf p tk.length k)) := by
              show _ = _
              simp only [serveTo, List.getD, List.getElem?_eq_getElem hlt2, Option.getD_some]
            clear hcl hcl2
            generalize hsv : serveTo tk s p k L = sv at hD1 hcl3 HLk HSU ⊢
            obtain ⟨lk, nx⟩ := sv
            clear hsv
            dsimp only at hD1 hcl3 HLk HSU ⊢
            have i1 : (1 : Int) ≤ tk.length := by omega
            have hdv : (p : Int) / tk.length ≤ 16 := by rw [← Int.natCast_ediv]; have := Nat.div_le_self p tk.length; omega
            have hdv0 : 0 ≤ (p : Int) / tk.length := by rw [← Int.natCast_ediv]; exact Int.natCast_nonneg _
            have hcn := cnt_ref p tk.length k hlt2
            have hcn2 : cntOf p tk.length k ≤ 17 := by rw [hcn]; have := Nat.div_le_self p tk.length; split <;> omega
            generalize hmm : tk[k] = m at hm1 HSU
            have Hm := Lib.hid hmm
            clear hmm
            have HE : Hid ((p : Int) / tk.length + 1 = (cntOf p tk.length k : Nat) ∨ k < tk.length) := .inr hlt2
            clear HE
            go_upto_if 58 with fail
            go_cut [12] (fun cc wq => cc = .int .i64 (cntOf p tk.length k) ∧ wq = wo)
            case first =>
              by_cases hr : k < p % tk.length
              · have hr' : (k : Int) < (p : Int) % tk.length := by rw [← Int.natCast_emod]; omega
                rw [if_pos hr] at hcn
                go_wp2_with fail
                go_meet
                case rel => exact ⟨by rw [hcn, ← Int.natCast_ediv]; simp, rfl⟩
              · have hr' : ¬ (k : Int) < (p : Int) % tk.length := by rw [← Int.natCast_emod]; omega
                rw [if_neg hr] at hcn
                go_wp2_with fail
                go_meet
                case rel => exact ⟨by rw [hcn, ← Int.natCast_ediv]; simp, rfl⟩
            case rest =>
            obtain ⟨rfl, hwo⟩ := hcut
            subst hwo
            generalize cntOf p tk.length k = cn at HSU hcn hcn2 ⊢
            clear hcn hdv hdv0
            go_wp2_with fail
            have hMo : MidS wt v F (giveRun m s 0 nx lk) wc := ⟨F1, vs1, hD1, hK1, hF1⟩
            have HKo := Lib.hid hK1
            clear hK1 hF1 hD1 y1
            go_loopw [10, 13] (fun nn jj wq => ∃ (j : Nat), jj = .int .i64 j ∧ j ≤ cn ∧ nn = .int .i64 ((nx : Int) + j) ∧ MidS wt v F (giveRun m s j nx lk) wq) (fun _ jj _ => cn - (intOf jj).toNat)
            case atStart => exact ⟨0, rfl, by omega, by simp, hMo⟩
            case round =>
              clear hMo
              obtain ⟨j, rfl, hj, rfl, F2, vs2, hD2, hK2, hF2⟩ := hrel
              by_cases hlt3 : j < cn
              · obtain ⟨d0, hbl2⟩ := nat_cells hr2.out hK2 hb2.out k hlt2
                rw [Hm.out] at d0
                have z0 := hK2.cell' hx0 hbF.out
                have hbl3 := block_of_cell z0
                have hLj := HLk.out.run m s j nx
                obtain ⟨g, capg, rfl⟩ := hvs.out.resolve_left (by omega)
                have hmj : m < (giveRun m s j nx lk).length := by rw [hLj.1]; exact hm1
                have hcapeq : Hid ((giveRun m s j nx lk).length = subs.length) := hLj.1
                rw [← hLj.1] at hD2
                obtain ⟨hsite, hfoot⟩ := site_of hD2 hmj
                rw [hLj.1] at hD2
                have hpl : ((giveRun m s j nx lk)[m]).parts.length ≤ 100000 := Nat.le_trans (hLj.2 m hmj) (by omega)
                have hb2p : (vs2.getD m .nilIface).ownBlock ≠ some b2 := fun e => (hF2 b2 (hfoot b2 e)).elim hb2.out (fun e => by have := (HFR.out b2 rfl).2; omega)
                have hbp : (vs2.getD m .nilIface).ownBlock ≠ some b := fun e => (hF2 b (hfoot b e)).elim hbF.out (fun e => by have h9 := block_of_cell hx0; omega)
                have hg2 : b2 ≠ g := fun e => by
                  have := hF2 g (hD2.foot g rfl)
                  subst e
                  exact this.elim hb2.out (fun e => by have := (HFR.out b2 rfl).2; omega)
                have hgb : b ≠ g := fun e => by
                  have := hF2 g (hD2.foot g rfl)
                  subst e
                  exact this.elim hbF.out (fun e => by have h9 := block_of_cell hx0; omega)
                have pc := hsite.cell
                have pl := hsite.lt
                have pown := hsite.own
                have HSite := Lib.hid hsite
                have HD2 := Lib.hid hD2
                have HK2 := Lib.hid hK2
                have HF2 := Lib.hid hF2
                have HMG := Lib.hid (fun (o : Obj) (g1 cap1 : Nat) (w1 : World) (hA : App1 (wr.alloc o).drew 0 34 2 (vs2.getD m .nilIface) ((giveRun m s j nx lk)[m]).parts.length (ptCells ((giveRun m s j nx lk)[m]).parts ++ [.string s, .int .i64 ((nx : Int) + j)]) g1 cap1 w1) =>
                  MidS.give (l := giveRun m s j nx lk) (cap := capg) (by rw [hLj.1]; exact hD2) hK2 hF2 hmj hA)
                clear hsite hD2 hK2 hF2 hLj hfoot
                have hge := Lib.hid (giveRun_succ m s j nx lk)
                generalize hpv : vs2.getD m .nilIface = pv at pc pown HSite HMG hb2p hbp
                generalize hnn : ((giveRun m s j nx lk)[m]).parts.length = nn at pown HSite HMG hpl
                generalize hxs : ptCells ((giveRun m s j nx lk)[m]).parts = xs at pown HSite HMG
                clear hpv hnn hxs
                have u1 : (0 : Int) ≤ k := by omega
                have u2 : (k : Int) < tk.length := by omega
                have u3 : (0 : Int) ≤ m := by omega
                have u4 : (m : Int) < subs.length := by omega
                have u5 : (0 : Int) ≤ t := by omega
                have u6 : (t : Int) < tops.length := by omega
                go_upto_region 19 with fail
                go_cut [] (fun wq => MidS wt (.slice (some ⟨g, 0, none⟩) subs.length capg) F (giveRun m s (j + 1) nx lk) wq)
                case first =>
                  go_region_law (first | (refine step_app1 rfl rfl Tryz.underlying44 info41 rfl (by decide) rfl ((pown.alloc _).drew) rfl (heap_new_drew _ _ _ (by simp)) rfl rfl (by omega) (Nat.zero_le _) ?_; intro g1 cap2 w1 hA; obtain ⟨q1, q2, q3⟩ := HSite.out.after hA; have q4 := q3 _ _ _ d0 hb2p; have q5 := q3 _ _ _ z0 hbp; have q6 := HMG.out _ _ _ _ hA; rw [← hge.out] at q6; have HQ := Lib.hid q6; clear q3 q6))
                  all_goals (go_wp2; go_meet; case rel => rw [← hcapeq.out]; exact HQ.out)
                case rest =>
                  go_wp2
                  go_roundw
                  case rel => exact ⟨j + 1, by go_num, by omega, by go_num, hcut⟩
                  case measure => simp [intOf]; omega
              · go_wp2
                have hje : j = cn := by omega
                subst hje
                go_roundw
                case rel => exact ⟨k + 1, by go_num, by omega, by rw [HSU.out]; go_num, by rw [HSU.out]; exact ⟨F2, vs2, hD2, hK2, hF2⟩⟩
                case measure => simp [intOf]; omega
          · obtain rfl : k = tk.length := by omega
            have HM : Hid (OutS w v (rangeTo subs tops (t + 1)) wo) := by
              have hq : rangeTo subs tops (t + 1) = (serveTo tk s p tk.length L).1 := by
                simp only [rangeTo]
                rw [HG.out, HN.out, HTKL.out, HP.out, HL.out]
                rfl
              rw [hq]
              refine ⟨F1, vs1, hD1, fun j e => ?_, ?_⟩
              · rcases hF1 j e with e | e
                · exact HF.out j e
                · have := HK.out.size; have := HKT.out.size; omega
              · exact (K0.tr HK.out HKT.out).trans hK1 (fun j hj e => by have := HF.out j e; omega)
            clear hD1 hK1 hF1
            go_wp2
            go_roundw
            case rel => exact ⟨t + 1, by go_num, by omega, HM.out⟩
            case measure => simp [intOf]; omega
      · obtain rfl : t = tops.length := by omega
        clear hbr
        go_wp2
        go_ret2
        exact .inr ⟨HCK.out, v, F, vs, rfl, HD.out, HF.out, HK.out⟩
  · rw [hc] at HC
    clear hs ht hb
    go_enter Tryz.func90, Tryz.ntmps90
    go_wp2_with fail
    refine HC.out.mono ?_
    rintro e w1 ⟨rfl, k1⟩
    go_wp2
    go_ret2
    exact .inl ⟨hc, rfl, k1⟩
end Go.Proofs.YtklhlffdpojkoaaGreat
