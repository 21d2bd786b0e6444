/-
  MemberWhole: in Stable each partition of each topic that some member wants is just one member's, that wants it: the walk.
-/
import Derived.Test.YtlmajhkhlmkeiaaKw
namespace Go.Proofs.Ytlmajhkhlmkeiaa
open Go.RowKit Go.Shelf Fx

theorem op_cells9 {w wr : World} {b off : Nat} {l : List OpC} (h : RowAt 7 rOp w b off l) (hk : K0 w wr) (k : Nat) (hlt : k < l.length) :
    (∀ j v, (opCells l[k])[j]? = some v → wr.cell? ⟨b, off + k * 7 + j, none⟩ = some v) ∧ b < wr.heap.size ∧ SlAt 1 rStr w l[k].ta l[k].tc l[k].topics ∧ SlAt 2 rTop w l[k].pa l[k].pc l[k].parts ∧ -9223372036854775808 ≤ l[k].m ∧ l[k].m ≤ 9223372036854775807 := by
  obtain ⟨cs, hc, hj, hr⟩ := h k hlt
  obtain ⟨hr, h1, h2, h3, h4⟩ := hr
  have hcs : ∀ j v, (opCells l[k])[j]? = some v → cs[j]? = some v ∧ j < 7 := fun j v e => by
    have h9 : (opCells l[k]).toList = cs := by rw [hr]; rfl
    rw [← h9]
    refine ⟨by simpa using e, ?_⟩
    have := (Array.getElem?_eq_some_iff.1 e).1
    exact this
  have hb : b < w.heap.size := World.block_lt_of_cell? w _ ((hj 0 (by omega)).trans (hcs 0 _ rfl).1)
  exact ⟨fun j v e => hk.cell' ((hj j (hcs j v e).2).trans (hcs j v e).1) (fun e => e), Nat.lt_of_lt_of_le hb hk.size, h1, h2, h3, h4⟩
theorem out_of9 {α : Type} {n : Nat} {R : Rdr α} (hn : 0 < n) {w : World} {a : Option Addr} {c : Nat} {l : List α} (h : SlAt n R w a c l) : Out n R w (fun _ => True) (.slice a l.length c) l := by
  refine ⟨a, c, rfl, h, fun x e hne => ⟨?_, trivial⟩⟩
  obtain ⟨b, off, e2, hr⟩ := h.2.2 hne
  rw [e] at e2
  cases e2
  obtain ⟨cs, h1, h2, _⟩ := hr 0 (List.length_pos_iff.2 hne)
  have h3 := h2 0 hn
  rw [List.getElem?_eq_getElem (by omega)] at h3
  exact cell_block1 h3
theorem stable_topW : Stable rTop := fun _ _ _ _ _ h => h
theorem view_one {w : World} {base : Nat} {a : Option Addr} {c : Nat} {ones : List OneC} (h : ViewAt w base (.slice a ones.length c) ones) {i : Nat} (hi : i < ones.length) :
    ∃ r ta tc pa pc, a = some ⟨r, 0, none⟩ ∧ w.cell? ⟨r, i * 5 + 1, none⟩ = some (.slice ta ones[i].topics.length tc) ∧ SlAt 1 rStr w ta tc ones[i].topics ∧ w.cell? ⟨r, i * 5 + 4, none⟩ = some (.slice pa ones[i].parts.length pc) ∧ SlAt 2 rPart w pa pc ones[i].parts ∧ r < w.heap.size := by
  obtain ⟨C, e1, h2, hC⟩ := h
  have hl : C.length = ones.length := by rw [← e1]; simp
  have hp : i < C.length := by omega
  have h7 : C[i].core = ones[i] := by simp only [← e1, List.getElem_map]
  obtain ⟨⟨ta, tc, et, ht, _⟩, pa, pc, ep, hpp, _⟩ := hC C[i] (List.getElem_mem hp)
  have e8 : ones[i].topics = C[i].topics := by rw [← h7]; rfl
  have e9 : ones[i].parts = C[i].parts := by rw [← h7]; rfl
  rcases h2.2 with ⟨h3, h4⟩ | ⟨r, cap, cur, h3, _, hg, _⟩
  · omega
  · simp only [Value.slice.injEq] at h3
    obtain ⟨rfl, h4, rfl⟩ := h3
    rw [h4] at h2
    have h6 := fun j hj => flatMap_get oneEnc 5 oneEnc_len C i j hp hj
    refine ⟨r, ta, tc, pa, pc, rfl, ?_, e8 ▸ ht, ?_, e9 ▸ hpp, block_lt hg⟩
    · rw [h2.cellAt (i * 5 + 1) (by omega), h6 1 (by omega), e8, ← et]
      rfl
    · rw [h2.cellAt (i * 5 + 4) (by omega), h6 4 (by omega), e9, ← ep]
      rfl
/-- How often a partition is among the first j. -/
def cntTo (s : ByteArray) (p : Nat) (l : List PartC) (j : Nat) : Nat := (l.take j).countP (hit s p)
theorem cntTo_zero (s : ByteArray) (p : Nat) (l : List PartC) : cntTo s p l 0 = 0 := by simp [cntTo]
theorem cntTo_succ {s : ByteArray} {p : Nat} {l : List PartC} {j : Nat} (h : j < l.length) {b : Bool} (e : hit s p l[j] = b) : cntTo s p l (j + 1) = cntTo s p l j + if b = true then 1 else 0 := by
  subst e
  exact count_take _ _ _ h
/-- What is so of one member, for one partition. -/
structure MemF (g : GroupC) (s : ByteArray) (p m : Nat) (o : OneC) : Prop where
  tk : (takeTo (subsOf g) s (m + 1)).isEmpty = ((takeTo (subsOf g) s m).isEmpty && !wantB o.topics s)
  gp : ∀ j, givenTo s p (sharesOf g) m + cntTo s p o.parts j ≤ 1
  gs : givenTo s p (sharesOf g) (m + 1) = givenTo s p (sharesOf g) m + cntTo s p o.parts o.parts.length
  own : ∀ j (hj : j < o.parts.length), hit s p o.parts[j] = true → wantB o.topics s = true
theorem sharesOf_len (g : GroupC) : (sharesOf g).length = g.ones.length := by simp [sharesOf]
theorem memF {g : GroupC} {tops : List TopC} (hw : WholeL (subsOf g) tops (sharesOf g)) {t : Nat} (ht : t < tops.length) {p : Nat} (hp : (p : Int) < tops[t].parts) {m : Nat} (hm : m < g.ones.length) : MemF g tops[t].name p m g.ones[m] := by
  have hsl : m < (sharesOf g).length := by rw [sharesOf_len]; exact hm
  have hbl : m < (subsOf g).length := by rw [subsOf_len]; exact hm
  have e1 : (sharesOf g)[m].parts = g.ones[m].parts := by simp [sharesOf]
  have e2 : topicsAt (subsOf g) m = g.ones[m].topics := by rw [topicsAt_eq hbl]; simp [subsOf]
  refine ⟨?_, fun j => ?_, ?_, fun j hj hh => ?_⟩
  · rw [takeTo_succ, e2]
    cases wantB g.ones[m].topics tops[t].name <;> simp
  · have h1 := given_part (s := tops[t].name) (p := p) hsl j
    rw [hw.cnt t ht p hp, e1] at h1
    exact Nat.le_trans h1 (oneIf_le _)
  · have h1 := givenTo_succ (s := tops[t].name) (p := p) hsl
    rw [e1] at h1
    exact h1
  · have h1 := hw.own t ht m hsl j (by rw [e1]; exact hj) (by
      have h2 : hit tops[t].name p ((sharesOf g)[m].parts[j]'(by rw [e1]; exact hj)) = true := by simpa only [e1] using hh
      unfold hit at h2
      rw [Bool.and_eq_true] at h2
      exact h2.1)
    have h3 : m ∈ (List.range (subsOf g).length).filter fun i => wantB (topicsAt (subsOf g) i) tops[t].name := h1
    rw [List.mem_filter, e2] at h3
    exact h3.2
theorem memF_all {g : GroupC} {tops : List TopC} (hw : WholeL (subsOf g) tops (sharesOf g)) {t : Nat} (ht : t < tops.length) {p : Nat} (hp : (p : Int) < tops[t].parts) :
    givenTo tops[t].name p (sharesOf g) g.ones.length = if (takeTo (subsOf g) tops[t].name g.ones.length).isEmpty then 0 else 1 := by
  have h1 := hw.cnt t ht p hp
  rw [← sharesOf_len, givenTo_all, h1, sharesOf_len]
  unfold takersL oneIf
  rw [subsOf_len]
  cases takeTo (subsOf g) tops[t].name g.ones.length <;> rfl
theorem wantB_succ {l : List ByteArray} {s : ByteArray} {j : Nat} (h : j < l.length) : wantB (l.take (j + 1)) s = (wantB (l.take j) s || decide (l[j] = s)) := by
  unfold wantB
  rw [List.take_succ_eq_append_getElem h, List.any_append]
  simp
/-- The rounds. -/
structure WRel (w wr : World) (b1 b2 k : Nat) (g1 g2 : GroupC) (tops : List TopC) : Prop where
  p : Pair (fun _ => False) w wr b1 b2 g1 g2
  k60 : k ≤ 60
  ok1 : Ok (2 * (60 - k) + 10) g1
  ok2 : Ok (2 * (60 - k) + 10) g2
  wh : g1.phase = 3 → WholeL (subsOf g1) tops (sharesOf g1)
set_option maxRecDepth 100000 in
set_option maxHeartbeats 8000000 in
theorem whole_any (w : World) (s r : Int) (a : Option Addr) (cap : Nat) (l : List OpC) (hs : SlAt 7 rOp w a cap l) :
    Calls Try.prog 8 #[.int .i64 s, .int .i64 r, .slice a l.length cap] w fun e w' => Same w e (.bool true) w' := by
  have hm := hs.len
  have HS := Lib.hid hs
  clear hs
  by_cases hb : newBad s r
  · have HN := Lib.hid (new_bad s r w hb)
    clear hb
    go_enter Try.func8, Try.ntmps8
    go_wp2_with fail
    refine HN.out.mono ?_
    rintro e w1 ⟨rfl, k1⟩
    have HK := Lib.hid k1
    clear k1
    go_wp2_with fail
    refine (live_any _).mono ?_
    rintro e w2 ⟨rfl, k2⟩
    have HF := Lib.hid (K0.tr HK.out k2)
    clear k2
    go_wp2
    go_ret
    exact ⟨rfl, HF.out⟩
  · have h1 : 1 ≤ s ∧ s ≤ 100000 := by unfold newBad at hb; omega
    have h2 : 1 ≤ r ∧ r ≤ 100000 := by unfold newBad at hb; omega
    have HN := Lib.hid (st_new (w := w) s r h1 h2)
    have HO : Hid (Ok 1000 (newG s r)) := Ok.new h1 h2
    clear hb h1 h2
    go_enter Try.func8, Try.ntmps8
    go_wp2_with fail
    refine HN.out.mono ?_
    rintro e w1 ⟨rfl, s1⟩
    have P0 := Lib.hid (rnew_pair (s := s) (r := r) s1)
    clear s1
    generalize w.heap.size = b1 at P0 ⊢
    go_wp2
    generalize w1.heap.size = b2 at P0 ⊢
    generalize w1.alloc _ = wx at P0 ⊢
    go_loopw [11, 10] (fun i tv wr => ∃ (k : Nat) (g1 g2 : GroupC) (tops : List TopC) (ta : Option Addr) (tc : Nat), i = .int .i64 k ∧ k ≤ l.length ∧ tv = .slice ta tops.length tc ∧ SlAt 2 rTop w ta tc tops ∧ WRel w wr b1 b2 k g1 g2 tops) (fun i _ _ => l.length - (intOf i).toNat)
    case atStart => exact ⟨0, _, _, [], none, 0, rfl, by omega, rfl, ⟨Nat.le_refl _, by unfold maxLen; omega, fun h => absurd rfl h⟩, P0.out, by omega, HO.out.le (by omega), HO.out.le (by omega), fun e => absurd (show (0 : Int) = 3 from e) (by decide)⟩
    case round =>
      obtain ⟨wo, rfl⟩ : ∃ wo : World, wo = wr := ⟨_, rfl⟩
      obtain ⟨k, g1, g2, tops, ta, tc, rfl, hk, rfl, hts, hr⟩ := hrel
      have HR := Lib.hid hr
      have HTS := Lib.hid hts
      clear hr P0 hts
      by_cases hlt : k < l.length
      · by_cases h60 : k < 60
        · obtain ⟨b, off, rfl, hrow⟩ := HS.out.row hlt
          obtain ⟨hcs, hbl, hst, hsp, hmm⟩ := op_cells9 hrow HR.out.p.keeps k hlt
          generalize l[k] = o at hcs hst hsp hmm
          have x0 : wo.cell? ⟨b, off + k * 7, none⟩ = some (.int .i64 o.do_) := hcs 0 _ rfl
          have x1 : wo.cell? ⟨b, off + k * 7 + 1, none⟩ = some (.int .i64 o.m) := hcs 1 _ rfl
          have x2 : wo.cell? ⟨b, off + k * 7 + 2, none⟩ = some (.slice o.ta o.topics.length o.tc) := hcs 2 _ rfl
          have x3 : wo.cell? ⟨b, off + k * 7 + 3, none⟩ = some (.int .i64 o.gn) := hcs 3 _ rfl
          have x4 : wo.cell? ⟨b, off + k * 7 + 4, none⟩ = some (.slice o.pa o.parts.length o.pc) := hcs 4 _ rfl
          have x5 : wo.cell? ⟨b, off + k * 7 + 5, none⟩ = some (.bool o.round) := hcs 5 _ rfl
          have x6 : wo.cell? ⟨b, off + k * 7 + 6, none⟩ = some (.int .i64 o.now) := hcs 6 _ rfl
          have HST := Lib.hid (out_of9 (by omega) hst)
          have HSP := Lib.hid (out_of9 (by omega) hsp)
          have HSP0 := Lib.hid hsp
          have HMM := Lib.hid hmm
          have HLT := Lib.hid hlt
          have H60 := Lib.hid h60
          have i0 : (0 : Int) ≤ k := by omega
          have i1 : (k : Int) < l.length := by omega
          have HB2 : Hid ((wo.alloc (.cells #[.int .i64 o.do_, .int .i64 o.m, .slice o.ta o.topics.length o.tc, .int .i64 o.gn, .slice o.pa o.parts.length o.pc, .bool o.round, .int .i64 o.now] 48)).heap[wo.heap.size]? = some (.cells #[.int .i64 o.do_, .int .i64 o.m, .slice o.ta o.topics.length o.tc, .int .i64 o.gn, .slice o.pa o.parts.length o.pc, .bool o.round, .int .i64 o.now] 48 (0, 0))) := heap_new _ _ _ rfl
          have hk2 : K0 wo (wo.alloc (.cells #[.int .i64 o.do_, .int .i64 o.m, .slice o.ta o.topics.length o.tc, .int .i64 o.gn, .slice o.pa o.parts.length o.pc, .bool o.round, .int .i64 o.now] 48)) := (Keeps.refl _ _).alloc _
          have HP2 := Lib.hid (HR.out.p.keep hk2)
          have HK2 := Lib.hid hk2
          obtain ⟨E1, hE1, hE1s, hmk1⟩ := HR.out.p.base
          have HE1 := Lib.hid hE1
          have HE1S := Lib.hid hE1s
          have HMK1 := Lib.hid hmk1
          have HSZ : Hid (w.heap.size ≤ wo.heap.size) := HR.out.p.keeps.size
          clear hE1 hE1s hmk1
          have c0 : (wo.alloc (.cells #[.int .i64 o.do_, .int .i64 o.m, .slice o.ta o.topics.length o.tc, .int .i64 o.gn, .slice o.pa o.parts.length o.pc, .bool o.round, .int .i64 o.now] 48)).cell? ⟨wo.heap.size, 0, none⟩ = some (.int .i64 o.do_) := block_cell HB2.out 0
          have c1 : (wo.alloc (.cells #[.int .i64 o.do_, .int .i64 o.m, .slice o.ta o.topics.length o.tc, .int .i64 o.gn, .slice o.pa o.parts.length o.pc, .bool o.round, .int .i64 o.now] 48)).cell? ⟨wo.heap.size, 1, none⟩ = some (.int .i64 o.m) := block_cell HB2.out 1
          have c2 : (wo.alloc (.cells #[.int .i64 o.do_, .int .i64 o.m, .slice o.ta o.topics.length o.tc, .int .i64 o.gn, .slice o.pa o.parts.length o.pc, .bool o.round, .int .i64 o.now] 48)).cell? ⟨wo.heap.size, 2, none⟩ = some (.slice o.ta o.topics.length o.tc) := block_cell HB2.out 2
          have c3 : (wo.alloc (.cells #[.int .i64 o.do_, .int .i64 o.m, .slice o.ta o.topics.length o.tc, .int .i64 o.gn, .slice o.pa o.parts.length o.pc, .bool o.round, .int .i64 o.now] 48)).cell? ⟨wo.heap.size, 3, none⟩ = some (.int .i64 o.gn) := block_cell HB2.out 3
          have c4 : (wo.alloc (.cells #[.int .i64 o.do_, .int .i64 o.m, .slice o.ta o.topics.length o.tc, .int .i64 o.gn, .slice o.pa o.parts.length o.pc, .bool o.round, .int .i64 o.now] 48)).cell? ⟨wo.heap.size, 4, none⟩ = some (.slice o.pa o.parts.length o.pc) := block_cell HB2.out 4
          have c5 : (wo.alloc (.cells #[.int .i64 o.do_, .int .i64 o.m, .slice o.ta o.topics.length o.tc, .int .i64 o.gn, .slice o.pa o.parts.length o.pc, .bool o.round, .int .i64 o.now] 48)).cell? ⟨wo.heap.size, 5, none⟩ = some (.bool o.round) := block_cell HB2.out 5
          have c6 : (wo.alloc (.cells #[.int .i64 o.do_, .int .i64 o.m, .slice o.ta o.topics.length o.tc, .int .i64 o.gn, .slice o.pa o.parts.length o.pc, .bool o.round, .int .i64 o.now] 48)).cell? ⟨wo.heap.size, 6, none⟩ = some (.int .i64 o.now) := block_cell HB2.out 6
          have clt := block_lt HB2.out
          clear hcs hst hsp hmm hrow hk2
          go_wp2_with fail
          obtain ⟨bo, hbo⟩ : ∃ bo, bo = wo.heap.size := ⟨_, rfl⟩
          rw [← hbo] at HB2 c0 c1 c2 c3 c4 c5 c6 clt HE1 HSZ ⊢
          clear hbo
          generalize wo.alloc _ = w2 at HB2 HP2 HK2 c0 c1 c2 c3 c4 c5 c6 clt ⊢
          refine (small_any o _).mono ?_
          rintro e w3 ⟨rfl, k3⟩
          have HB3 := Lib.hid ((k3.block _ (block_lt HB2.out) (fun e => e)).trans HB2.out)
          have HP3 := Lib.hid (HP2.out.keep k3)
          have HK03 := Lib.hid (K0.tr HK2.out k3)
          clear k3 x0 x1 x2 x3 x4 x5 x6 hbl c0 c1 c2 c3 c4 c5 c6 clt
          cases hsm : (decide (o.topics.length ≤ 30) && decide (o.parts.length ≤ 30)) with
          | false =>
            clear hsm
            go_wp2_with fail
            refine (live_any _).mono ?_
            rintro e w4 ⟨rfl, k4⟩
            have HF := Lib.hid (K0.tr HP3.out.keeps k4)
            clear k4
            go_wp2
            go_ret
            exact ⟨rfl, HF.out⟩
          | true =>
            have hsm2 : o.topics.length ≤ 30 := by simp at hsm; exact hsm.1
            have HTL : Hid (o.topics.length ≤ 1000) := by show _ ≤ _; omega
            clear hsm hsm2
            have HV1 := Lib.hid (pair_view HP3.out HR.out.ok1)
            go_wp2_with fail
            refine HV1.out.mono ?_
            rintro e w4 ⟨⟨va1, vc1, rfl, _, kv1⟩, p4⟩
            have HK34 := Lib.hid kv1
            have HB5 := Lib.hid ((kv1.block _ (block_lt HB3.out) (fun e => e)).trans HB3.out)
            have HP5 := Lib.hid (HMK1.out _ (K0.tr HK03.out kv1))
            have HNO : Hid (¬ E1 bo) := fun e => Nat.lt_irrefl _ (HE1.out _ e)
            have c0 : w4.cell? ⟨bo, 0, none⟩ = some (.int .i64 o.do_) := block_cell HB5.out 0
            have c1 : w4.cell? ⟨bo, 1, none⟩ = some (.int .i64 o.m) := block_cell HB5.out 1
            have c2 : w4.cell? ⟨bo, 2, none⟩ = some (.slice o.ta o.topics.length o.tc) := block_cell HB5.out 2
            have c3 : w4.cell? ⟨bo, 3, none⟩ = some (.int .i64 o.gn) := block_cell HB5.out 3
            have c4 : w4.cell? ⟨bo, 4, none⟩ = some (.slice o.pa o.parts.length o.pc) := block_cell HB5.out 4
            have c5 : w4.cell? ⟨bo, 5, none⟩ = some (.bool o.round) := block_cell HB5.out 5
            have c6 : w4.cell? ⟨bo, 6, none⟩ = some (.int .i64 o.now) := block_cell HB5.out 6
            have clt := block_lt HB5.out
            clear kv1 p4
            have vf0 := view_field0
            go_wp2_with fail
            clear vf0
            have HK05 := Lib.hid (K0.tr HK03.out HK34.out)
            have HST5 := Lib.hid (HST.out.keep still_str (K0.tr HR.out.p.keeps HK05.out) (G' := fun k => ¬ E1 k) (fun _ _ _ e => e) (fun k hlt _ e2 => (HE1S.out k e2).elim id (fun e => by omega)))
            have HSP5 := Lib.hid (HSP.out.keep still_top (K0.tr HR.out.p.keeps HK05.out) (G' := fun k => ¬ E1 k) (fun _ _ _ e => e) (fun k hlt _ e2 => (HE1S.out k e2).elim id (fun e => by omega)))
            have HOA : Hid (Ok (2 * (60 - k) + 8 + 2) g1) := HR.out.ok1
            have HOB : Hid (Ok (2 * (60 - k) + 8 + 2) g2) := HR.out.ok2
            refine (step_all HP5.out HOA.out HOB.out o HMM.out HTL.out HST5.out HSP5.out).mono ?_
            rintro e w6 ⟨⟨x, rfl⟩, sp⟩
            obtain ⟨sg, h1, h2, p6, r1, r2⟩ := sp
            have HWS : Hid (WS g1 h1 o.parts) := r1.elim (fun e => by rw [e]; exact WS.step g1 sg o) (fun e => by rw [e]; exact .inl (KS.refl g1))
            have HO1 : Hid (Ok (2 * (60 - k) + 8) h1) := r1.elim (fun e => by rw [e]; exact HOA.out.step sg o HMM.out HTL.out) (fun e => by rw [e]; exact HOA.out.le (by omega))
            have HO2 : Hid (Ok (2 * (60 - k) + 8) h2) := r2.elim (fun e => by rw [e]; exact HOB.out.step sg o HMM.out HTL.out) (fun e => by rw [e]; exact HOB.out.le (by omega))
            have HP6 : Hid (Pair (fun _ => False) w w6 b1 b2 h1 h2) := Pair.back HR.out.p.keeps HK05.out HE1S.out p6
            have HB6 := Lib.hid ((p6.keeps.block _ (block_lt HB5.out) HNO.out).trans HB5.out)
            clear p6 r1 r2 c0 c1 c2 c3 c4 c5 c6 clt HST5 HSP5 HOA HOB HP5 HB5 HST HSP HP3 HB3 HP2 HB2 HV1 HK34 HK05 HK03 HK2 HN
            go_wp2_with fail
            refine (pair_view HP6.out HO1.out).mono ?_
            rintro e w7 ⟨⟨va3, vc3, rfl, hva3, kv3⟩, p7⟩
            have HP7 := Lib.hid p7
            have HD8 : Hid ((w7.alloc (.cells #[.int .i64 h1.phase, .int .i64 h1.gen, .int .i64 h1.next, .int .i64 h1.til, .slice va3 h1.ones.length vc3] 35)).heap[w7.heap.size]? = some (.cells #[.int .i64 h1.phase, .int .i64 h1.gen, .int .i64 h1.next, .int .i64 h1.til, .slice va3 h1.ones.length vc3] 35 (0, 0))) := heap_new _ _ _ rfl
            have hk8 : K0 w7 (w7.alloc (.cells #[.int .i64 h1.phase, .int .i64 h1.gen, .int .i64 h1.next, .int .i64 h1.til, .slice va3 h1.ones.length vc3] 35)) := (Keeps.refl _ _).alloc _
            have HK68 := Lib.hid (K0.tr kv3 hk8)
            have HB8 := Lib.hid ((HK68.out.block _ (block_lt HB6.out) (fun e => e)).trans HB6.out)
            have HP8 := Lib.hid (HP7.out.keep hk8)
            have HVA8 := Lib.hid (hva3.keep hk8 (fun _ e => e.elim))
            have z0 : (w7.alloc (.cells #[.int .i64 h1.phase, .int .i64 h1.gen, .int .i64 h1.next, .int .i64 h1.til, .slice va3 h1.ones.length vc3] 35)).cell? ⟨w7.heap.size, 0, none⟩ = some (.int .i64 h1.phase) := block_cell HD8.out 0
            have z4 : (w7.alloc (.cells #[.int .i64 h1.phase, .int .i64 h1.gen, .int .i64 h1.next, .int .i64 h1.til, .slice va3 h1.ones.length vc3] 35)).cell? ⟨w7.heap.size, 4, none⟩ = some (.slice va3 h1.ones.length vc3) := block_cell HD8.out 4
            have zlt := block_lt HD8.out
            have c4 : (w7.alloc (.cells #[.int .i64 h1.phase, .int .i64 h1.gen, .int .i64 h1.next, .int .i64 h1.til, .slice va3 h1.ones.length vc3] 35)).cell? ⟨bo, 4, none⟩ = some (.slice o.pa o.parts.length o.pc) := block_cell HB8.out 4
            have clt := block_lt HB8.out
            clear kv3 p7 hk8 hva3
            go_upto_region 17 with fail
            obtain ⟨b14, hb14⟩ : ∃ b14, b14 = w7.heap.size := ⟨_, rfl⟩
            rw [← hb14] at z0 z4 zlt ⊢
            clear hb14 HD8
            generalize w7.alloc _ = w8 at HB8 HP8 HK68 HVA8 z0 z4 zlt c4 clt ⊢
            have HR2 := Lib.hid (fun (n : Nat) (tops9 : List TopC) (hw : h1.phase = 3 → WholeL (subsOf h1) tops9 (sharesOf h1)) => (⟨HP8.out.keep ((Keeps.refl _ _).drewN n), H60.out, HO1.out.le (by have := H60.out; omega), HO2.out.le (by have := H60.out; omega), hw⟩ : WRel w (w8.drewN n) b1 b2 (k + 1) h1 h2 tops9))
            clear HB6 HP6 HP7 HK68 HMM HTL HE1 HE1S HMK1 HSZ HNO HB8 HO HO2 HS
            by_cases hph : h1.phase = 3
            · rw [hph] at z0
              have HPH := Lib.hid hph
              clear hph
              go_upto_if 73 with fail
              go_cut [10] (fun tv wq => (∃ (tops9 : List TopC) (ta9 : Option Addr) (tc9 : Nat), tv = .slice ta9 tops9.length tc9 ∧ SlAt 2 rTop w ta9 tc9 tops9 ∧ WholeL (subsOf h1) tops9 (sharesOf h1)) ∧ wq = w8)
              case first =>
                by_cases hwp : g1.phase = 3
                · have e3 : (g1.phase != 3) = false := by simp [hwp]
                  have HWH : Hid (WholeL (subsOf h1) tops (sharesOf h1)) := (HWS.out.elim (fun e => by obtain ⟨_, e2, e3⟩ := e HPH.out; rw [e2, e3]; exact HR.out.wh hwp) (fun e => absurd hwp e.1))
                  clear hwp
                  go_wp2
                  go_meet
                  case rel => exact ⟨⟨tops, ta, tc, rfl, HTS.out, HWH.out⟩, rfl⟩
                · have e3 : (g1.phase != 3) = true := by simpa using hwp
                  have HWH : Hid (WholeL (subsOf h1) o.parts (sharesOf h1)) := (HWS.out.elim (fun e => absurd (e HPH.out).1 hwp) (fun e => e.2))
                  clear hwp
                  go_wp2
                  go_meet
                  case rel => exact ⟨⟨o.parts, o.pa, o.pc, rfl, HSP0.out, HWH.out⟩, rfl⟩
              case rest =>
              obtain ⟨⟨tops9, ta9, tc9, rfl, hts, hwl⟩, rfl⟩ := hcut
              obtain ⟨w8, rfl⟩ : ∃ w8 : World, w8 = wc := ⟨_, rfl⟩
              have HWL := Lib.hid hwl
              have HT8 := Lib.hid (hts.keep0 stable_topW HP8.out.keeps)
              have HTS9 := Lib.hid hts
              have htm := hts.len
              have hol : h1.ones.length ≤ 20 := HO1.out.wf.len
              clear hts hwl c4 clt HR HWS HSP0 HTS HPH HP8 z0
              go_wp2
              go_loopw [15] (fun i wr => ∃ t n : Nat, i = .int .i64 t ∧ t ≤ tops9.length ∧ wr = w8.drewN n) (fun i _ => tops9.length - (intOf i).toNat)
              case atStart => exact ⟨0, 0, rfl, by omega, rfl⟩
              case round =>
                obtain ⟨t, n1, rfl, htl, rfl⟩ := hrel
                by_cases hlt2 : t < tops9.length
                · obtain ⟨b9, off9, rfl, rt⟩ := HT8.out.row hlt2
                  obtain ⟨t0, t1, tbl⟩ := top_cells rt (Below.refl _ _) t hlt2
                  have j0 : (0 : Int) ≤ t := by omega
                  have j1 : (t : Int) < tops9.length := by omega
                  have HMF := Lib.hid (fun (p m : Nat) (hp : (p : Int) < tops9[t].parts) (hm : m < h1.ones.length) => memF HWL.out hlt2 hp hm)
                  have HMA := Lib.hid (fun (p : Nat) (hp : (p : Int) < tops9[t].parts) => memF_all HWL.out hlt2 hp)
                  have HLT2 := Lib.hid hlt2
                  generalize tops9[t].name = nm at t0 HMF HMA
                  generalize tops9[t].parts = np at t1 HMF HMA
                  clear rt hlt2
                  go_wp2
                  go_loopw [16] (fun i wr => ∃ p n : Nat, i = .int .i64 p ∧ p ≤ 20 ∧ wr = w8.drewN n) (fun i _ => 20 - (intOf i).toNat)
                  case atStart => exact ⟨0, n1, rfl, by omega, rfl⟩
                  case round =>
                    obtain ⟨p, n2, rfl, hp20, rfl⟩ := hrel
                    by_cases hp : (p : Int) < np
                    · by_cases hp2 : p < 20
                      · have hp2i : (p : Int) < 20 := by omega
                        have HPL := Lib.hid hp2
                        have HM := Lib.hid (fun m hm => HMF.out p m hp hm)
                        have HA := Lib.hid (HMA.out p hp)
                        have p0 : (0 : Int) ≤ p := by omega
                        go_wp2
                        clear hp hp2 hp2i t1
                        go_loopw [19, 17, 18] (fun i cv wv wr => ∃ m n : Nat, i = .int .i64 m ∧ m ≤ h1.ones.length ∧ cv = .int .i64 (givenTo nm p (sharesOf h1) m : Nat) ∧ wv = .bool (!(takeTo (subsOf h1) nm m).isEmpty) ∧ wr = w8.drewN n) (fun i _ _ _ => h1.ones.length - (intOf i).toNat)
                        case atStart => exact ⟨0, n2, rfl, by omega, by simp [givenTo], by simp [takeTo], rfl⟩
                        case round =>
                          obtain ⟨m, n3, rfl, hml, rfl, rfl, rfl⟩ := hrel
                          by_cases hlt3 : m < h1.ones.length
                          · obtain ⟨r4, sa, sc, pa, pc, rfl, x1, hsa, x4, hpa, r4l⟩ := view_one HVA8.out hlt3
                            obtain ⟨htk, hgp, hgs, hown⟩ := HM.out m hlt3
                            generalize h1.ones[m] = om at x1 hsa x4 hpa htk hgp hgs hown
                            generalize om.parts = ps9 at x4 hpa hgp hgs hown
                            generalize om.topics = tps9 at x1 hsa htk hown
                            have HSA := Lib.hid hsa
                            have HPA := Lib.hid hpa
                            have hsl := hsa.len
                            have hpl := hpa.len
                            have HLT3 := Lib.hid hlt3
                            have k0 : (0 : Int) ≤ m := by omega
                            have k1 : (m : Int) < h1.ones.length := by omega
                            generalize (takeTo (subsOf h1) nm m).isEmpty = e0 at htk ⊢
                            generalize givenTo nm p (sharesOf h1) m = g0 at hgp hgs ⊢
                            have HTK := Lib.hid htk
                            have HGP := Lib.hid hgp
                            have HGS := Lib.hid hgs
                            have HOWN := Lib.hid hown
                            clear hsa hpa htk hgp hgs hown
                            go_wp2
                            go_loopw [21, 20] (fun i wv wr => ∃ j n : Nat, i = .int .i64 j ∧ j ≤ tps9.length ∧ wv = .bool (wantB (tps9.take j) nm) ∧ wr = w8.drewN n) (fun i _ _ => tps9.length - (intOf i).toNat)
                            case atStart => exact ⟨0, n3, rfl, by omega, by simp [wantB], rfl⟩
                            case round =>
                              obtain ⟨j, n4, rfl, hjl, rfl, rfl⟩ := hrel
                              by_cases hlt4 : j < tps9.length
                              · obtain ⟨b5, off5, rfl, r5⟩ := HSA.out.row hlt4
                                obtain ⟨d0, d0l⟩ := str_cells r5 (Below.refl _ _) j hlt4
                                have HWT := Lib.hid (wantB_succ (s := nm) hlt4)
                                have l0 : (0 : Int) ≤ j := by omega
                                have l1 : (j : Int) < tps9.length := by omega
                                generalize tps9[j] = x at d0 HWT
                                have HLT4 := Lib.hid hlt4
                                clear r5 x4
                                cases hA : wantB (tps9.take j) nm with
                                | true =>
                                  have HAA := Lib.hid hA
                                  clear hA
                                  go_wp2_with fail
                                  go_quiet (fail)
                                  go_wp2
                                  go_roundw
                                  case rel => exact ⟨j + 1, n4 + _, by go_num, HLT4.out, by rw [HWT.out, HAA.out]; rfl, rfl⟩
                                  case measure => have := HLT4.out; simp [intOf]; omega
                                | false =>
                                  have HAA := Lib.hid hA
                                  clear hA
                                  by_cases he : x = nm
                                  · have HE : Hid (wantB (tps9.take (j + 1)) nm = true) := by show _ = _; rw [HWT.out, he]; simp
                                    rw [he] at d0
                                    clear he
                                    go_wp2_with fail
                                    go_quiet (fail)
                                    go_wp2
                                    go_roundw
                                    case rel => exact ⟨j + 1, n4 + _, by go_num, HLT4.out, by rw [HE.out], rfl⟩
                                    case measure => have := HLT4.out; simp [intOf]; omega
                                  · have HE : Hid (wantB (tps9.take (j + 1)) nm = false) := by show _ = _; rw [HWT.out, HAA.out]; simpa using he
                                    obtain ⟨he1, he2⟩ := toList_ne he
                                    clear he
                                    go_wp2_with fail
                                    go_quiet (fail)
                                    go_wp2
                                    go_roundw
                                    case rel => exact ⟨j + 1, n4 + _, by go_num, HLT4.out, by rw [HE.out], rfl⟩
                                    case measure => have := HLT4.out; simp [intOf]; omega
                              · obtain rfl : j = tps9.length := by omega
                                rw [List.take_length]
                                generalize wantB tps9 nm = wb at HTK HOWN ⊢
                                go_upto_region 36 with fail
                                go_cut [18] (fun wv wq => (∃ b9 : Bool, wv = .bool b9 ∧ Hid (b9 = !(takeTo (subsOf h1) nm (m + 1)).isEmpty)) ∧ wq = w8.drewN n4)
                                case first =>
                                  cases e0 with
                                  | true =>
                                    go_wp2
                                    go_meet
                                    case rel => exact ⟨⟨_, rfl, by have h8 := HTK.out; show _ = _; simp [h8]⟩, rfl⟩
                                  | false =>
                                    go_wp2
                                    go_meet
                                    case rel => exact ⟨⟨_, rfl, by have h8 := HTK.out; show _ = _; simp [h8]⟩, rfl⟩
                                case rest =>
                                obtain ⟨⟨b9, rfl, HB9⟩, rfl⟩ := hcut
                                clear x1
                                go_wp2
                                go_loopw [22, 17] (fun i cv wr => ∃ j n : Nat, i = .int .i64 j ∧ j ≤ ps9.length ∧ cv = .int .i64 (g0 + cntTo nm p ps9 j : Nat) ∧ wr = w8.drewN n) (fun i _ _ => ps9.length - (intOf i).toNat)
                                case atStart => exact ⟨0, n4, rfl, by omega, by rw [cntTo_zero]; simp, rfl⟩
                                case round =>
                                  obtain ⟨j, n5, rfl, hjl, rfl, rfl⟩ := hrel
                                  by_cases hlt5 : j < ps9.length
                                  · obtain ⟨b6, off6, rfl, r6⟩ := HPA.out.row hlt5
                                    obtain ⟨v0, v1, hbl6⟩ := part_cells r6 (Below.refl _ _) j hlt5
                                    have HCT : Hid (∀ b, hit nm p ps9[j] = b → cntTo nm p ps9 (j + 1) = cntTo nm p ps9 j + if b = true then 1 else 0) := fun b e => cntTo_succ hlt5 e
                                    have hgj := HGP.out j
                                    have HOJ := Lib.hid (HOWN.out j hlt5)
                                    have HLT5 := Lib.hid hlt5
                                    generalize cntTo nm p ps9 j = c at HCT hgj ⊢
                                    have l0 : (0 : Int) ≤ j := by omega
                                    have l1 : (j : Int) < ps9.length := by omega
                                    clear r6
                                    cases hh : hit nm p ps9[j] with
                                    | false =>
                                      have q1 := eqlHit hh
                                      have HCU := Lib.hid (HCT.out _ hh)
                                      clear HCT
                                      have q3 := h41c
                                      clear hh
                                      generalize ps9[j].topic = x at v0 q1
                                      generalize ps9[j].index = xi at v1 q1
                                      go_wp2_with fail
                                      go_quiet (fail)
                                      go_wp2
                                      go_roundw
                                      case rel => refine ⟨j + 1, n5 + nq, by go_num, HLT5.out, ?_, rfl⟩; have h8 := HCU.out; clear HCU; generalize cntTo nm p ps9 (j + 1) = c9 at h8 ⊢; subst h8; simp
                                      case measure => have := HLT5.out; simp [intOf]; omega
                                    | true =>
                                      have q1 := eqlHit hh
                                      have HCU := Lib.hid (HCT.out _ hh)
                                      clear HCT
                                      have q3 := h41c
                                      have e8 : (!wb) = false := by rw [HOJ.out hh]; rfl
                                      clear hh
                                      generalize ps9[j].topic = x at v0 q1
                                      generalize ps9[j].index = xi at v1 q1
                                      go_wp2_with fail
                                      go_quiet (fail)
                                      go_wp2
                                      go_roundw
                                      case rel => refine ⟨j + 1, n5 + nq, by go_num, HLT5.out, ?_, rfl⟩; have h8 := HCU.out; clear HCU; generalize cntTo nm p ps9 (j + 1) = c9 at h8 ⊢; subst h8; simp; omega
                                      case measure => have := HLT5.out; simp [intOf]; omega
                                  · obtain rfl : j = ps9.length := by omega
                                    go_wp2
                                    go_roundw
                                    case rel => refine ⟨m + 1, n5, by go_num, HLT3.out, ?_, congrArg Value.bool HB9.out, rfl⟩; have h8 := HGS.out; clear HGS; generalize givenTo nm p (sharesOf h1) (m + 1) = c9 at h8 ⊢; subst h8; simp
                                    case measure => have := HLT3.out; simp [intOf]; omega
                          · obtain rfl : m = h1.ones.length := by omega
                            rw [HA.out]
                            generalize (takeTo (subsOf h1) nm h1.ones.length).isEmpty = e9
                            cases e9 with
                            | true =>
                              go_wp2
                              go_roundw
                              case rel => exact ⟨p + 1, n3, by go_num, HPL.out, rfl⟩
                              case measure => have := HPL.out; simp [intOf]; omega
                            | false =>
                              go_wp2
                              go_roundw
                              case rel => exact ⟨p + 1, n3, by go_num, HPL.out, rfl⟩
                              case measure => have := HPL.out; simp [intOf]; omega
                      · have hp2i : ¬ (p : Int) < 20 := by omega
                        go_wp2
                        go_roundw
                        case rel => exact ⟨t + 1, n2, by go_num, HLT2.out, rfl⟩
                        case measure => have := HLT2.out; simp [intOf]; omega
                    · go_wp2
                      go_roundw
                      case rel => exact ⟨t + 1, n2, by go_num, HLT2.out, rfl⟩
                      case measure => have := HLT2.out; simp [intOf]; omega
                · obtain rfl : t = tops9.length := by omega
                  go_wp2
                  go_roundw
                  case rel => exact ⟨k + 1, h1, h2, tops9, ta9, tc9, by go_num, HLT.out, rfl, HTS9.out, HR2.out n1 tops9 (fun _ => HWL.out)⟩
                  case measure => have := HLT.out; simp [intOf]; omega
            · have e3 : (h1.phase != 3) = true := by simpa using hph
              have HPH := Lib.hid hph
              clear hph
              go_wp2
              go_roundw
              case rel => exact ⟨k + 1, h1, h2, tops, ta, tc, by go_num, HLT.out, rfl, HTS.out, HR2.out 0 tops (fun e => absurd e HPH.out)⟩
              case measure => have := HLT.out; simp [intOf]; omega
        · have h60i : ¬ (k : Int) < 60 := by omega
          go_wp2_with fail
          refine (live_any _).mono ?_
          rintro e w2 ⟨rfl, k2⟩
          have HF := Lib.hid (K0.tr HR.out.p.keeps k2)
          clear k2
          go_wp2
          go_ret
          exact ⟨rfl, HF.out⟩
      · obtain rfl : k = l.length := by omega
        go_wp2_with fail
        refine (live_any _).mono ?_
        rintro e w2 ⟨rfl, k2⟩
        have HF := Lib.hid (K0.tr HR.out.p.keeps k2)
        clear k2
        go_wp2
        go_ret
        exact ⟨rfl, HF.out⟩
end Go.Proofs.Ytlmajhkhlmkeiaa
