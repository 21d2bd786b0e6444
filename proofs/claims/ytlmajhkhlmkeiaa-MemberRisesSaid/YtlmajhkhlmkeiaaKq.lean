/-
  MemberRises: the generation never falls; what names another one changes nothing: the walk.
-/
import Derived.Test.YtlmajhkhlmkeiaaKd
namespace Go.Proofs.Ytlmajhkhlmkeiaa
open Go.RowKit Go.Shelf Fx

theorem op_cells9 {w wr : World} {b off : Nat} {l : List OpC} (h : RowAt 7 rOp w b off l) (hk : K0 w wr) (k : Nat) (hlt : k < l.length) :
    (∀ j v, (opCells l[k])[j]? = some v → wr.cell? ⟨b, off + k * 7 + j, none⟩ = some v) ∧ b < wr.heap.size ∧ SlAt 1 rStr w l[k].ta l[k].tc l[k].topics ∧ SlAt 2 rTop w l[k].pa l[k].pc l[k].parts ∧ -9223372036854775808 ≤ l[k].m ∧ l[k].m ≤ 9223372036854775807 := by
  obtain ⟨cs, hc, hj, hr⟩ := h k hlt
  obtain ⟨hr, h1, h2, h3, h4⟩ := hr
  have hcs : ∀ j v, (opCells l[k])[j]? = some v → cs[j]? = some v ∧ j < 7 := fun j v e => by
    have h9 : (opCells l[k]).toList = cs := by rw [hr]; rfl
    rw [← h9]
    refine ⟨by simpa using e, ?_⟩
    have := (Array.getElem?_eq_some_iff.1 e).1
    exact this
  have hb : b < w.heap.size := World.block_lt_of_cell? w _ ((hj 0 (by omega)).trans (hcs 0 _ rfl).1)
  exact ⟨fun j v e => hk.cell' ((hj j (hcs j v e).2).trans (hcs j v e).1) (fun e => e), Nat.lt_of_lt_of_le hb hk.size, h1, h2, h3, h4⟩
theorem out_of9 {α : Type} {n : Nat} {R : Rdr α} (hn : 0 < n) {w : World} {a : Option Addr} {c : Nat} {l : List α} (h : SlAt n R w a c l) : Out n R w (fun _ => True) (.slice a l.length c) l := by
  refine ⟨a, c, rfl, h, fun x e hne => ⟨?_, trivial⟩⟩
  obtain ⟨b, off, e2, hr⟩ := h.2.2 hne
  rw [e] at e2
  cases e2
  obtain ⟨cs, h1, h2, _⟩ := hr 0 (List.length_pos_iff.2 hne)
  have h3 := h2 0 hn
  rw [List.getElem?_eq_getElem (by omega)] at h3
  exact cell_block1 h3
theorem view_til {w : World} {base : Nat} {a : Option Addr} {c : Nat} {ones : List OneC} (h : ViewAt w base (.slice a ones.length c) ones) {i : Nat} (hi : i < ones.length) : ∃ r, a = some ⟨r, 0, none⟩ ∧ w.cell? ⟨r, i * 5 + 2, none⟩ = some (.int .i64 ones[i].til) ∧ r < w.heap.size := by
  obtain ⟨C, e1, h2, _⟩ := h
  have hl : C.length = ones.length := by rw [← e1]; simp
  have hp : i < C.length := by omega
  rcases h2.2 with ⟨h3, h4⟩ | ⟨r, cap, cur, h3, _, hg, _⟩
  · omega
  · simp only [Value.slice.injEq] at h3
    obtain ⟨rfl, h4, rfl⟩ := h3
    rw [h4] at h2
    refine ⟨r, rfl, ?_, block_lt hg⟩
    have h6 := flatMap_get oneEnc 5 oneEnc_len C i 2 hp (by omega)
    rw [h2.cellAt (i * 5 + 2) (by omega), h6]
    have h7 : C[i].core = ones[i] := by simp only [← e1, List.getElem_map]
    rw [← h7]
    rfl
theorem sync_wrong {E : Nat → Prop} {w0 w : World} {b1 b2 n : Nat} {g1 g2 : GroupC} (h : Pair E w0 w b1 b2 g1 g2) (ok : Ok n g1) (now : Int) (tv : Value) (tops : List TopC) (round : Bool) (ht : Out 2 rTop w0 (fun k => ¬ E k) tv tops) :
    Calls Try.prog 13 #[.pointer (some ⟨b1, 0, none⟩), .int .i64 0, .int .i64 (g1.gen + 1), tv, .bool round, .int .i64 now] w fun e w' => ∃ a j c se, e = .returned (.tuple #[.slice a j c, .int .i64 se]) ∧ (se == 0) = false ∧ Pair E w0 w' b1 b2 g1 g2 := by
  refine (pair_sync h ok 0 (g1.gen + 1) now ⟨by omega, by omega⟩ tv tops round ht).mono fun e w' hq => ?_
  obtain ⟨⟨pv, ps, rfl, hpv, _⟩, p11⟩ := hq
  obtain ⟨pa, pc, rfl, _, _⟩ := hpv
  have h9 := sync_off (g := g1) 0 tops round now
  rw [h9.1] at p11
  exact ⟨pa, _, pc, _, rfl, by simpa using h9.2, p11⟩
theorem beat_wrong {E : Nat → Prop} {w0 w : World} {b1 b2 n : Nat} {g1 g2 : GroupC} (h : Pair E w0 w b1 b2 g1 g2) (ok : Ok n g1) (now : Int) :
    Calls Try.prog 15 #[.pointer (some ⟨b1, 0, none⟩), .int .i64 1, .int .i64 (g1.gen - 1), .int .i64 now] w fun e w' => ∃ be : Int, e = .returned (.int .i64 be) ∧ (be == 0) = false ∧ Pair E w0 w' b1 b2 g1 g2 := by
  refine (pair_beat h ok 1 (g1.gen - 1) now ⟨by omega, by omega⟩).mono fun e w' hq => ?_
  obtain ⟨rfl, p12⟩ := hq
  have h9 := beat_off (g := g1) 1 now
  rw [h9.1] at p12
  exact ⟨_, rfl, by simpa using h9.2, p12⟩
/-- The rounds. -/
structure RRel (w wr : World) (b1 b2 k : Nat) (g1 g2 : GroupC) : Prop where
  p : Pair (fun _ => False) w wr b1 b2 g1 g2
  k60 : k ≤ 60
  ok1 : Ok (2 * (60 - k) + 10) g1
  ok2 : Ok (2 * (60 - k) + 10) g2
set_option maxRecDepth 100000 in
set_option maxHeartbeats 8000000 in
theorem rises_any (w : World) (s r : Int) (a : Option Addr) (cap : Nat) (l : List OpC) (hs : SlAt 7 rOp w a cap l) :
    Calls Try.prog 7 #[.int .i64 s, .int .i64 r, .slice a l.length cap] w fun e w' => Same w e (.bool true) w' := by
  have hm := hs.len
  have HS := Lib.hid hs
  clear hs
  by_cases hb : newBad s r
  · have HN := Lib.hid (new_bad s r w hb)
    clear hb
    go_enter Try.func7, Try.ntmps7
    go_wp2_with fail
    refine HN.out.mono ?_
    rintro e w1 ⟨rfl, k1⟩
    have HK := Lib.hid k1
    clear k1
    go_wp2_with fail
    refine (live_any _).mono ?_
    rintro e w2 ⟨rfl, k2⟩
    have HF := Lib.hid (K0.tr HK.out k2)
    clear k2
    go_wp2
    go_ret
    exact ⟨rfl, HF.out⟩
  · have h1 : 1 ≤ s ∧ s ≤ 100000 := by unfold newBad at hb; omega
    have h2 : 1 ≤ r ∧ r ≤ 100000 := by unfold newBad at hb; omega
    have HN := Lib.hid (st_new (w := w) s r h1 h2)
    have HO : Hid (Ok 1000 (newG s r)) := Ok.new h1 h2
    clear hb h1 h2
    go_enter Try.func7, Try.ntmps7
    go_wp2_with fail
    refine HN.out.mono ?_
    rintro e w1 ⟨rfl, s1⟩
    have P0 := Lib.hid (rnew_pair (s := s) (r := r) s1)
    clear s1
    generalize w.heap.size = b1 at P0 ⊢
    go_wp2
    generalize w1.heap.size = b2 at P0 ⊢
    generalize w1.alloc _ = wx at P0 ⊢
    go_loopw [10] (fun i wr => ∃ (k : Nat) (g1 g2 : GroupC), i = .int .i64 k ∧ k ≤ l.length ∧ RRel w wr b1 b2 k g1 g2) (fun i _ => l.length - (intOf i).toNat)
    case atStart => exact ⟨0, _, _, rfl, by omega, P0.out, by omega, HO.out.le (by omega), HO.out.le (by omega)⟩
    case round =>
      obtain ⟨wo, rfl⟩ : ∃ wo : World, wo = wr := ⟨_, rfl⟩
      obtain ⟨k, g1, g2, rfl, hk, hr⟩ := hrel
      have HR := Lib.hid hr
      clear hr P0
      by_cases hlt : k < l.length
      · by_cases h60 : k < 60
        · obtain ⟨b, off, rfl, hrow⟩ := HS.out.row hlt
          obtain ⟨hcs, hbl, hst, hsp, hmm⟩ := op_cells9 hrow HR.out.p.keeps k hlt
          generalize l[k] = o at hcs hst hsp hmm
          have x0 : wo.cell? ⟨b, off + k * 7, none⟩ = some (.int .i64 o.do_) := hcs 0 _ rfl
          have x1 : wo.cell? ⟨b, off + k * 7 + 1, none⟩ = some (.int .i64 o.m) := hcs 1 _ rfl
          have x2 : wo.cell? ⟨b, off + k * 7 + 2, none⟩ = some (.slice o.ta o.topics.length o.tc) := hcs 2 _ rfl
          have x3 : wo.cell? ⟨b, off + k * 7 + 3, none⟩ = some (.int .i64 o.gn) := hcs 3 _ rfl
          have x4 : wo.cell? ⟨b, off + k * 7 + 4, none⟩ = some (.slice o.pa o.parts.length o.pc) := hcs 4 _ rfl
          have x5 : wo.cell? ⟨b, off + k * 7 + 5, none⟩ = some (.bool o.round) := hcs 5 _ rfl
          have x6 : wo.cell? ⟨b, off + k * 7 + 6, none⟩ = some (.int .i64 o.now) := hcs 6 _ rfl
          have HST := Lib.hid (out_of9 (by omega) hst)
          have HSP := Lib.hid (out_of9 (by omega) hsp)
          have HMM := Lib.hid hmm
          have HLT := Lib.hid hlt
          have H60 := Lib.hid h60
          have i0 : (0 : Int) ≤ k := by omega
          have i1 : (k : Int) < l.length := by omega
          have HB2 : Hid ((wo.alloc (.cells #[.int .i64 o.do_, .int .i64 o.m, .slice o.ta o.topics.length o.tc, .int .i64 o.gn, .slice o.pa o.parts.length o.pc, .bool o.round, .int .i64 o.now] 48)).heap[wo.heap.size]? = some (.cells #[.int .i64 o.do_, .int .i64 o.m, .slice o.ta o.topics.length o.tc, .int .i64 o.gn, .slice o.pa o.parts.length o.pc, .bool o.round, .int .i64 o.now] 48 (0, 0))) := heap_new _ _ _ rfl
          have hk2 : K0 wo (wo.alloc (.cells #[.int .i64 o.do_, .int .i64 o.m, .slice o.ta o.topics.length o.tc, .int .i64 o.gn, .slice o.pa o.parts.length o.pc, .bool o.round, .int .i64 o.now] 48)) := (Keeps.refl _ _).alloc _
          have HP2 := Lib.hid (HR.out.p.keep hk2)
          have HK2 := Lib.hid hk2
          obtain ⟨E1, hE1, hE1s, hmk1⟩ := HR.out.p.base
          have HE1 := Lib.hid hE1
          have HE1S := Lib.hid hE1s
          have HMK1 := Lib.hid hmk1
          have HSZ : Hid (w.heap.size ≤ wo.heap.size) := HR.out.p.keeps.size
          clear hE1 hE1s hmk1
          have c0 : (wo.alloc (.cells #[.int .i64 o.do_, .int .i64 o.m, .slice o.ta o.topics.length o.tc, .int .i64 o.gn, .slice o.pa o.parts.length o.pc, .bool o.round, .int .i64 o.now] 48)).cell? ⟨wo.heap.size, 0, none⟩ = some (.int .i64 o.do_) := block_cell HB2.out 0
          have c1 : (wo.alloc (.cells #[.int .i64 o.do_, .int .i64 o.m, .slice o.ta o.topics.length o.tc, .int .i64 o.gn, .slice o.pa o.parts.length o.pc, .bool o.round, .int .i64 o.now] 48)).cell? ⟨wo.heap.size, 1, none⟩ = some (.int .i64 o.m) := block_cell HB2.out 1
          have c2 : (wo.alloc (.cells #[.int .i64 o.do_, .int .i64 o.m, .slice o.ta o.topics.length o.tc, .int .i64 o.gn, .slice o.pa o.parts.length o.pc, .bool o.round, .int .i64 o.now] 48)).cell? ⟨wo.heap.size, 2, none⟩ = some (.slice o.ta o.topics.length o.tc) := block_cell HB2.out 2
          have c3 : (wo.alloc (.cells #[.int .i64 o.do_, .int .i64 o.m, .slice o.ta o.topics.length o.tc, .int .i64 o.gn, .slice o.pa o.parts.length o.pc, .bool o.round, .int .i64 o.now] 48)).cell? ⟨wo.heap.size, 3, none⟩ = some (.int .i64 o.gn) := block_cell HB2.out 3
          have c4 : (wo.alloc (.cells #[.int .i64 o.do_, .int .i64 o.m, .slice o.ta o.topics.length o.tc, .int .i64 o.gn, .slice o.pa o.parts.length o.pc, .bool o.round, .int .i64 o.now] 48)).cell? ⟨wo.heap.size, 4, none⟩ = some (.slice o.pa o.parts.length o.pc) := block_cell HB2.out 4
          have c5 : (wo.alloc (.cells #[.int .i64 o.do_, .int .i64 o.m, .slice o.ta o.topics.length o.tc, .int .i64 o.gn, .slice o.pa o.parts.length o.pc, .bool o.round, .int .i64 o.now] 48)).cell? ⟨wo.heap.size, 5, none⟩ = some (.bool o.round) := block_cell HB2.out 5
          have c6 : (wo.alloc (.cells #[.int .i64 o.do_, .int .i64 o.m, .slice o.ta o.topics.length o.tc, .int .i64 o.gn, .slice o.pa o.parts.length o.pc, .bool o.round, .int .i64 o.now] 48)).cell? ⟨wo.heap.size, 6, none⟩ = some (.int .i64 o.now) := block_cell HB2.out 6
          have clt := block_lt HB2.out
          clear hcs hst hsp hmm hrow hk2
          go_wp2_with fail
          obtain ⟨bo, hbo⟩ : ∃ bo, bo = wo.heap.size := ⟨_, rfl⟩
          rw [← hbo] at HB2 c0 c1 c2 c3 c4 c5 c6 clt HE1 HSZ ⊢
          clear hbo
          generalize wo.alloc _ = w2 at HB2 HP2 HK2 c0 c1 c2 c3 c4 c5 c6 clt ⊢
          refine (small_any o _).mono ?_
          rintro e w3 ⟨rfl, k3⟩
          have HB3 := Lib.hid ((k3.block _ (block_lt HB2.out) (fun e => e)).trans HB2.out)
          have HP3 := Lib.hid (HP2.out.keep k3)
          have HK03 := Lib.hid (K0.tr HK2.out k3)
          have HLT3 : Hid (bo < w3.heap.size) := block_lt HB3.out
          clear k3 x0 x1 x2 x3 x4 x5 x6 hbl c0 c1 c2 c3 c4 c5 c6 clt
          cases hsm : (decide (o.topics.length ≤ 30) && decide (o.parts.length ≤ 30)) with
          | false =>
            clear hsm
            go_wp2_with fail
            refine (live_any _).mono ?_
            rintro e w4 ⟨rfl, k4⟩
            have HF := Lib.hid (K0.tr HP3.out.keeps k4)
            clear k4
            go_wp2
            go_ret
            exact ⟨rfl, HF.out⟩
          | true =>
            have hsm2 : o.topics.length ≤ 30 := by simp at hsm; exact hsm.1
            have HTL : Hid (o.topics.length ≤ 1000) := by show _ ≤ _; omega
            clear hsm hsm2
            have HV1 := Lib.hid (pair_view HP3.out HR.out.ok1)
            go_wp2_with fail
            refine HV1.out.mono ?_
            rintro e w4 ⟨⟨va1, vc1, rfl, _, kv1⟩, p4⟩
            have HK34 := Lib.hid kv1
            have HP4 := Lib.hid p4
            have HB12 : Hid ((w4.alloc (.cells #[.int .i64 g1.phase, .int .i64 g1.gen, .int .i64 g1.next, .int .i64 g1.til, .slice va1 g1.ones.length vc1] 35)).heap[w4.heap.size]? = some (.cells #[.int .i64 g1.phase, .int .i64 g1.gen, .int .i64 g1.next, .int .i64 g1.til, .slice va1 g1.ones.length vc1] 35 (0, 0))) := heap_new _ _ _ rfl
            have hk5 : K0 w4 (w4.alloc (.cells #[.int .i64 g1.phase, .int .i64 g1.gen, .int .i64 g1.next, .int .i64 g1.til, .slice va1 g1.ones.length vc1] 35)) := (Keeps.refl _ _).alloc _
            have HK35 := Lib.hid (K0.tr kv1 hk5)
            have HN12 : Hid (¬ E1 w4.heap.size) := fun e => by have := HE1.out _ e; have := kv1.size; have h9 := HLT3.out; omega
            have HB5 := Lib.hid ((HK35.out.block _ (block_lt HB3.out) (fun e => e)).trans HB3.out)
            have HP5 := Lib.hid (HMK1.out _ (K0.tr HK03.out HK35.out))
            have HNO : Hid (¬ E1 bo) := fun e => Nat.lt_irrefl _ (HE1.out _ e)
            have c0 : (w4.alloc (.cells #[.int .i64 g1.phase, .int .i64 g1.gen, .int .i64 g1.next, .int .i64 g1.til, .slice va1 g1.ones.length vc1] 35)).cell? ⟨bo, 0, none⟩ = some (.int .i64 o.do_) := block_cell HB5.out 0
            have c1 : (w4.alloc (.cells #[.int .i64 g1.phase, .int .i64 g1.gen, .int .i64 g1.next, .int .i64 g1.til, .slice va1 g1.ones.length vc1] 35)).cell? ⟨bo, 1, none⟩ = some (.int .i64 o.m) := block_cell HB5.out 1
            have c2 : (w4.alloc (.cells #[.int .i64 g1.phase, .int .i64 g1.gen, .int .i64 g1.next, .int .i64 g1.til, .slice va1 g1.ones.length vc1] 35)).cell? ⟨bo, 2, none⟩ = some (.slice o.ta o.topics.length o.tc) := block_cell HB5.out 2
            have c3 : (w4.alloc (.cells #[.int .i64 g1.phase, .int .i64 g1.gen, .int .i64 g1.next, .int .i64 g1.til, .slice va1 g1.ones.length vc1] 35)).cell? ⟨bo, 3, none⟩ = some (.int .i64 o.gn) := block_cell HB5.out 3
            have c4 : (w4.alloc (.cells #[.int .i64 g1.phase, .int .i64 g1.gen, .int .i64 g1.next, .int .i64 g1.til, .slice va1 g1.ones.length vc1] 35)).cell? ⟨bo, 4, none⟩ = some (.slice o.pa o.parts.length o.pc) := block_cell HB5.out 4
            have c5 : (w4.alloc (.cells #[.int .i64 g1.phase, .int .i64 g1.gen, .int .i64 g1.next, .int .i64 g1.til, .slice va1 g1.ones.length vc1] 35)).cell? ⟨bo, 5, none⟩ = some (.bool o.round) := block_cell HB5.out 5
            have c6 : (w4.alloc (.cells #[.int .i64 g1.phase, .int .i64 g1.gen, .int .i64 g1.next, .int .i64 g1.til, .slice va1 g1.ones.length vc1] 35)).cell? ⟨bo, 6, none⟩ = some (.int .i64 o.now) := block_cell HB5.out 6
            have clt := block_lt HB5.out
            clear kv1 p4 hk5
            go_wp2_with fail
            have HK05 := Lib.hid (K0.tr HK03.out HK35.out)
            have HST5 := Lib.hid (HST.out.keep still_str (K0.tr HR.out.p.keeps HK05.out) (G' := fun k => ¬ E1 k) (fun _ _ _ e => e) (fun k hlt _ e2 => (HE1S.out k e2).elim id (fun e => by omega)))
            have HSP5 := Lib.hid (HSP.out.keep still_top (K0.tr HR.out.p.keeps HK05.out) (G' := fun k => ¬ E1 k) (fun _ _ _ e => e) (fun k hlt _ e2 => (HE1S.out k e2).elim id (fun e => by omega)))
            have HOA : Hid (Ok (2 * (60 - k) + 8 + 2) g1) := HR.out.ok1
            have HOB : Hid (Ok (2 * (60 - k) + 8 + 2) g2) := HR.out.ok2
            refine (step_all HP5.out HOA.out HOB.out o HMM.out HTL.out HST5.out HSP5.out).mono ?_
            rintro e w6 ⟨⟨x, rfl⟩, sp⟩
            obtain ⟨sg, h1, h2, p6, r1, r2⟩ := sp
            have HRB : Hid (RB 2 g1 h1) := r1.elim (fun e => by rw [e]; exact RB.step g1 sg o) (fun e => by rw [e]; exact (RB.refl g1).le (by omega))
            have HO1 : Hid (Ok (2 * (60 - k) + 8) h1) := r1.elim (fun e => by rw [e]; exact HOA.out.step sg o HMM.out HTL.out) (fun e => by rw [e]; exact HOA.out.le (by omega))
            have HO2 : Hid (Ok (2 * (60 - k) + 8) h2) := r2.elim (fun e => by rw [e]; exact HOB.out.step sg o HMM.out HTL.out) (fun e => by rw [e]; exact HOB.out.le (by omega))
            have HP6 : Hid (Pair (fun _ => False) w w6 b1 b2 h1 h2) := Pair.back HR.out.p.keeps HK05.out HE1S.out p6
            have HB6 := Lib.hid ((p6.keeps.block _ (block_lt HB5.out) HNO.out).trans HB5.out)
            have HC6 := Lib.hid ((p6.keeps.block _ (block_lt HB12.out) HN12.out).trans HB12.out)
            generalize hb12 : w4.heap.size = b12 at HC6 HN12 ⊢
            clear hb12 r1 r2 c0 c1 c2 c3 c4 c5 c6 clt
            obtain ⟨E2, hE2, hE2s, hmk2⟩ := p6.base
            have HNO2 : Hid (¬ E2 bo) := fun e => (hE2s _ e).elim HNO.out (fun e => by have h9 := block_lt HB5.out; omega)
            have HE2W : Hid (∀ k, E2 k → False ∨ w.heap.size ≤ k) := fun k e => (hE2s _ e).elim (HE1S.out k) (fun e => .inr (Nat.le_trans (K0.tr HR.out.p.keeps HK05.out).size e))
            clear p6
            have HE2 := Lib.hid hE2
            have HE2S := Lib.hid hE2s
            have HMK2 := Lib.hid hmk2
            clear hE2 hE2s hmk2
            go_wp2_with fail
            refine (pair_view HP6.out HO1.out).mono ?_
            rintro e w7 ⟨⟨va3, vc3, rfl, _, kv3⟩, p7⟩
            have HP7 := Lib.hid p7
            have HD8 : Hid ((w7.alloc (.cells #[.int .i64 h1.phase, .int .i64 h1.gen, .int .i64 h1.next, .int .i64 h1.til, .slice va3 h1.ones.length vc3] 35)).heap[w7.heap.size]? = some (.cells #[.int .i64 h1.phase, .int .i64 h1.gen, .int .i64 h1.next, .int .i64 h1.til, .slice va3 h1.ones.length vc3] 35 (0, 0))) := heap_new _ _ _ rfl
            have hk8 : K0 w7 (w7.alloc (.cells #[.int .i64 h1.phase, .int .i64 h1.gen, .int .i64 h1.next, .int .i64 h1.til, .slice va3 h1.ones.length vc3] 35)) := (Keeps.refl _ _).alloc _
            have HK68 := Lib.hid (K0.tr kv3 hk8)
            have HC8 := Lib.hid ((HK68.out.block _ (block_lt HC6.out) (fun e => e)).trans HC6.out)
            have HB8 := Lib.hid ((HK68.out.block _ (block_lt HB6.out) (fun e => e)).trans HB6.out)
            have HP8 := Lib.hid (HP7.out.keep hk8)
            have HBD : Hid (w6.heap.size ≤ w7.heap.size) := kv3.size
            have y0 : (w7.alloc (.cells #[.int .i64 h1.phase, .int .i64 h1.gen, .int .i64 h1.next, .int .i64 h1.til, .slice va3 h1.ones.length vc3] 35)).cell? ⟨b12, 0, none⟩ = some (.int .i64 g1.phase) := block_cell HC8.out 0
            have y1 : (w7.alloc (.cells #[.int .i64 h1.phase, .int .i64 h1.gen, .int .i64 h1.next, .int .i64 h1.til, .slice va3 h1.ones.length vc3] 35)).cell? ⟨b12, 1, none⟩ = some (.int .i64 g1.gen) := block_cell HC8.out 1
            have y2 : (w7.alloc (.cells #[.int .i64 h1.phase, .int .i64 h1.gen, .int .i64 h1.next, .int .i64 h1.til, .slice va3 h1.ones.length vc3] 35)).cell? ⟨b12, 2, none⟩ = some (.int .i64 g1.next) := block_cell HC8.out 2
            have y3 : (w7.alloc (.cells #[.int .i64 h1.phase, .int .i64 h1.gen, .int .i64 h1.next, .int .i64 h1.til, .slice va3 h1.ones.length vc3] 35)).cell? ⟨b12, 3, none⟩ = some (.int .i64 g1.til) := block_cell HC8.out 3
            have y4 : (w7.alloc (.cells #[.int .i64 h1.phase, .int .i64 h1.gen, .int .i64 h1.next, .int .i64 h1.til, .slice va3 h1.ones.length vc3] 35)).cell? ⟨b12, 4, none⟩ = some (.slice va1 g1.ones.length vc1) := block_cell HC8.out 4
            have ylt := block_lt HC8.out
            have z0 : (w7.alloc (.cells #[.int .i64 h1.phase, .int .i64 h1.gen, .int .i64 h1.next, .int .i64 h1.til, .slice va3 h1.ones.length vc3] 35)).cell? ⟨w7.heap.size, 0, none⟩ = some (.int .i64 h1.phase) := block_cell HD8.out 0
            have z1 : (w7.alloc (.cells #[.int .i64 h1.phase, .int .i64 h1.gen, .int .i64 h1.next, .int .i64 h1.til, .slice va3 h1.ones.length vc3] 35)).cell? ⟨w7.heap.size, 1, none⟩ = some (.int .i64 h1.gen) := block_cell HD8.out 1
            have z2 : (w7.alloc (.cells #[.int .i64 h1.phase, .int .i64 h1.gen, .int .i64 h1.next, .int .i64 h1.til, .slice va3 h1.ones.length vc3] 35)).cell? ⟨w7.heap.size, 2, none⟩ = some (.int .i64 h1.next) := block_cell HD8.out 2
            have z3 : (w7.alloc (.cells #[.int .i64 h1.phase, .int .i64 h1.gen, .int .i64 h1.next, .int .i64 h1.til, .slice va3 h1.ones.length vc3] 35)).cell? ⟨w7.heap.size, 3, none⟩ = some (.int .i64 h1.til) := block_cell HD8.out 3
            have z4 : (w7.alloc (.cells #[.int .i64 h1.phase, .int .i64 h1.gen, .int .i64 h1.next, .int .i64 h1.til, .slice va3 h1.ones.length vc3] 35)).cell? ⟨w7.heap.size, 4, none⟩ = some (.slice va3 h1.ones.length vc3) := block_cell HD8.out 4
            have zlt := block_lt HD8.out
            clear kv3 p7 hk8
            have hrb := HRB.out
            have n1 : ¬ h1.gen < g1.gen := by have := hrb.1; omega
            have n2 : ¬ g1.gen + 2 < h1.gen := by have := hrb.2.1; omega
            have hgg := HOA.out.wf.gen
            have HPH : Hid (h1.phase = 2 → g1.phase = 2 ∨ g1.gen < h1.gen) := hrb.2.2
            clear hrb
            go_upto_region 16 with fail
            obtain ⟨b13, hb13⟩ : ∃ b13, b13 = w7.heap.size := ⟨_, rfl⟩
            rw [← hb13] at HD8 z0 z1 z2 z3 z4 zlt HBD ⊢
            clear hb13
            generalize w7.alloc _ = w8 at HD8 HC8 HB8 HP8 HK68 y0 y1 y2 y3 y4 ylt z0 z1 z2 z3 z4 zlt ⊢
            have HPHG : Hid (h1.phase = 2 → g1.phase = 2 ∨ ¬ h1.gen = g1.gen) := fun e => (HPH.out e).imp id (fun e => by omega)
            go_upto_region 18 with fail
            go_cut [92] (fun tv wq => tv = .bool false ∧ wq = w8)
            case first =>
              have hphg := HPHG.out
              generalize h1.phase = p1 at z0 hphg
              generalize g1.phase = p0 at y0 hphg
              generalize h1.gen = q1 at z1 n1 n2 hphg
              generalize g1.gen = q0 at y1 n1 n2 hphg hgg
              by_cases e1 : p1 = 2
              · rcases hphg e1 with e0 | e0
                · clear hphg
                  subst e1 e0
                  go_wp2
                  go_meet
                  case rel => exact ⟨rfl, rfl⟩
                · have e3 : (q1 == q0) = false := by simpa using e0
                  clear hphg e0
                  subst e1
                  by_cases e0 : p0 = 2
                  · subst e0
                    go_wp2
                    go_meet
                    case rel => exact ⟨rfl, rfl⟩
                  · have e4 : (p0 != 2) = true := by simpa using e0
                    clear e0
                    go_wp2
                    go_meet
                    case rel => exact ⟨rfl, rfl⟩
              · have e4 : (p1 == 2) = false := by simpa using e1
                clear hphg e1
                go_wp2
                go_meet
                case rel => exact ⟨rfl, rfl⟩
            case rest =>
              obtain ⟨rfl, rfl⟩ := hcut
              obtain ⟨w8, rfl⟩ : ∃ w8 : World, w8 = wc := ⟨_, rfl⟩
              clear n1 n2 y0 y1 y2 y3 y4 ylt z0 z2 z3 z4 HPH HPHG
              have HNB2 : Hid (¬ E2 b13) := fun e => by have := HE2.out _ e; have h9 := HBD.out; omega
              have HLB : Hid (bo < w8.heap.size ∧ b13 < w8.heap.size) := ⟨block_lt HB8.out, block_lt HD8.out⟩
              go_wp2_with fail
              refine (pair_view HP8.out HO1.out).mono ?_
              rintro e w9 ⟨⟨va4, vc4, rfl, hva4, kv4⟩, p9⟩
              have HVA4 := Lib.hid hva4
              have HD10 : Hid ((w9.alloc (.cells #[.int .i64 h1.phase, .int .i64 h1.gen, .int .i64 h1.next, .int .i64 h1.til, .slice va4 h1.ones.length vc4] 35)).heap[w9.heap.size]? = some (.cells #[.int .i64 h1.phase, .int .i64 h1.gen, .int .i64 h1.next, .int .i64 h1.til, .slice va4 h1.ones.length vc4] 35 (0, 0))) := heap_new _ _ _ rfl
              have hk10 : K0 w9 (w9.alloc (.cells #[.int .i64 h1.phase, .int .i64 h1.gen, .int .i64 h1.next, .int .i64 h1.til, .slice va4 h1.ones.length vc4] 35)) := (Keeps.refl _ _).alloc _
              have HK810 := Lib.hid (K0.tr kv4 hk10)
              have HK610 := Lib.hid (K0.tr HK68.out HK810.out)
              have HP10 := Lib.hid (HMK2.out _ HK610.out)
              have HB10 := Lib.hid ((HK810.out.block _ (block_lt HB8.out) (fun e => e)).trans HB8.out)
              have HZ10 := Lib.hid ((HK810.out.block _ (block_lt HD8.out) (fun e => e)).trans HD8.out)
              have HVA10 := Lib.hid (hva4.keep hk10 (fun _ e => e.elim))
              have HSP10 := Lib.hid (HSP.out.keep still_top (K0.tr HP8.out.keeps HK810.out) (G' := fun k => ¬ E2 k) (fun _ _ _ e => e) (fun k hlt _ e2 => (HE2W.out k e2).elim id (fun e => by omega)))
              have HSZ9 : Hid (w6.heap.size ≤ w9.heap.size ∧ w6.heap.size ≤ w8.heap.size) := ⟨Nat.le_trans HK68.out.size kv4.size, HK68.out.size⟩
              have hgh := HO1.out.wf.gen
              have c4 : (w9.alloc (.cells #[.int .i64 h1.phase, .int .i64 h1.gen, .int .i64 h1.next, .int .i64 h1.til, .slice va4 h1.ones.length vc4] 35)).cell? ⟨bo, 4, none⟩ = some (.slice o.pa o.parts.length o.pc) := block_cell HB10.out 4
              have c5 : (w9.alloc (.cells #[.int .i64 h1.phase, .int .i64 h1.gen, .int .i64 h1.next, .int .i64 h1.til, .slice va4 h1.ones.length vc4] 35)).cell? ⟨bo, 5, none⟩ = some (.bool o.round) := block_cell HB10.out 5
              have c6 : (w9.alloc (.cells #[.int .i64 h1.phase, .int .i64 h1.gen, .int .i64 h1.next, .int .i64 h1.til, .slice va4 h1.ones.length vc4] 35)).cell? ⟨bo, 6, none⟩ = some (.int .i64 o.now) := block_cell HB10.out 6
              have clt := block_lt HB10.out
              have z1 : (w9.alloc (.cells #[.int .i64 h1.phase, .int .i64 h1.gen, .int .i64 h1.next, .int .i64 h1.til, .slice va4 h1.ones.length vc4] 35)).cell? ⟨b13, 1, none⟩ = some (.int .i64 h1.gen) := block_cell HZ10.out 1
              have zlt := block_lt HZ10.out
              clear kv4 p9 hk10 hva4
              go_upto_region 21 with fail
              obtain ⟨b14, hb14⟩ : ∃ b14, b14 = w9.heap.size := ⟨_, rfl⟩
              rw [← hb14] at HD10 HSZ9 ⊢
              clear hb14
              generalize w9.alloc _ = w10 at HD10 HK810 HK610 HP10 HB10 HZ10 HVA10 HSP10 c4 c5 c6 clt z1 zlt ⊢
              go_cut [16] (fun tv wq => (∃ se : Int, tv = .int .i64 se ∧ (se == 0) = false) ∧ Pair E2 w10 wq b1 b2 h1 h2)
              case first =>
                clear HN HS HR HST HSP HMM HLT H60 HP2 HK2 HB3 HP3 HK03 HLT3 HTL HV1 HK34 HP4
                have HSW := Lib.hid (fun now => sync_wrong HP10.out HO1.out now _ o.parts o.round HSP10.out)
                go_wp2_with fail
                all_goals
                  refine (HSW.out _).mono ?_
                  rintro e w11 ⟨pa9, pn9, pc9, se, rfl, hse, p11⟩
                  have HP11 := Lib.hid p11
                  clear p11 c4 c5 c6 clt z1 zlt
                  go_wp2
                  go_meet
                  case rel => exact ⟨⟨se, rfl, hse⟩, HP11.out⟩
              case rest =>
              obtain ⟨⟨se, rfl, hse⟩, p11⟩ := hcut
              obtain ⟨w11, rfl⟩ : ∃ w11 : World, w11 = wc := ⟨_, rfl⟩
              have HP11 := Lib.hid p11
              have HB11 := Lib.hid ((p11.keeps.block _ (block_lt HB10.out) HNO2.out).trans HB10.out)
              have HZ11 := Lib.hid ((p11.keeps.block _ (block_lt HZ10.out) HNB2.out).trans HZ10.out)
              clear p11 c4 c5 c6 clt z1 zlt
              have c6 : w11.cell? ⟨bo, 6, none⟩ = some (.int .i64 o.now) := block_cell HB11.out 6
              have clt := block_lt HB11.out
              have z1 : w11.cell? ⟨b13, 1, none⟩ = some (.int .i64 h1.gen) := block_cell HZ11.out 1
              have zlt := block_lt HZ11.out
              go_upto_region 22 with fail
              go_cut [17] (fun tv wq => (∃ be : Int, tv = .int .i64 be ∧ (be == 0) = false) ∧ Pair E2 w10 wq b1 b2 h1 h2)
              case first =>
                have HSW := Lib.hid (fun now => beat_wrong HP11.out HO1.out now)
                go_wp2_with fail
                all_goals
                  refine (HSW.out _).mono ?_
                  rintro e w12 ⟨be, rfl, hbe, p12⟩
                  have HP12 := Lib.hid p12
                  clear p12 c6 clt z1 zlt
                  go_wp2
                  go_meet
                  case rel => exact ⟨⟨be, rfl, hbe⟩, HP12.out⟩
              case rest =>
              obtain ⟨⟨be, rfl, hbe⟩, p12⟩ := hcut
              obtain ⟨w12, rfl⟩ : ∃ w12 : World, w12 = wc := ⟨_, rfl⟩
              have HP12 := Lib.hid p12
              have hsz12 : w10.heap.size ≤ w12.heap.size := p12.keeps.size
              clear p12 c6 clt z1 zlt
              go_wp2_with fail
              refine (pair_view HP12.out HO1.out).mono ?_
              rintro e w13 ⟨⟨va5, vc5, rfl, hva5, kv5⟩, p13⟩
              have HVA5 := Lib.hid hva5
              have HD14 : Hid ((w13.alloc (.cells #[.int .i64 h1.phase, .int .i64 h1.gen, .int .i64 h1.next, .int .i64 h1.til, .slice va5 h1.ones.length vc5] 35)).heap[w13.heap.size]? = some (.cells #[.int .i64 h1.phase, .int .i64 h1.gen, .int .i64 h1.next, .int .i64 h1.til, .slice va5 h1.ones.length vc5] 35 (0, 0))) := heap_new _ _ _ rfl
              have hk14 : K0 w13 (w13.alloc (.cells #[.int .i64 h1.phase, .int .i64 h1.gen, .int .i64 h1.next, .int .i64 h1.til, .slice va5 h1.ones.length vc5] 35)) := (Keeps.refl _ _).alloc _
              have HK1014 := Lib.hid ((HP12.out.keeps.trans kv5 (fun _ _ e => e.elim)).trans hk14 (fun _ _ e => e.elim))
              have HVA14 := Lib.hid (hva5.keep hk14 (fun _ e => e.elim))
              have HVB14 := Lib.hid (HVA10.out.keep HK1014.out (fun k e => .inl (by have := HE2.out k e; have h9 := HSZ9.out.2; omega)))
              have HB14 := Lib.hid ((HK1014.out.block _ (block_lt HD10.out) (fun e => by have := HE2.out _ e; have h9 := HSZ9.out.1; omega)).trans HD10.out)
              have HP14 := Lib.hid (p13.keep hk14)
              have y0 : (w13.alloc (.cells #[.int .i64 h1.phase, .int .i64 h1.gen, .int .i64 h1.next, .int .i64 h1.til, .slice va5 h1.ones.length vc5] 35)).cell? ⟨b14, 0, none⟩ = some (.int .i64 h1.phase) := block_cell HB14.out 0
              have y1 : (w13.alloc (.cells #[.int .i64 h1.phase, .int .i64 h1.gen, .int .i64 h1.next, .int .i64 h1.til, .slice va5 h1.ones.length vc5] 35)).cell? ⟨b14, 1, none⟩ = some (.int .i64 h1.gen) := block_cell HB14.out 1
              have y2 : (w13.alloc (.cells #[.int .i64 h1.phase, .int .i64 h1.gen, .int .i64 h1.next, .int .i64 h1.til, .slice va5 h1.ones.length vc5] 35)).cell? ⟨b14, 2, none⟩ = some (.int .i64 h1.next) := block_cell HB14.out 2
              have y3 : (w13.alloc (.cells #[.int .i64 h1.phase, .int .i64 h1.gen, .int .i64 h1.next, .int .i64 h1.til, .slice va5 h1.ones.length vc5] 35)).cell? ⟨b14, 3, none⟩ = some (.int .i64 h1.til) := block_cell HB14.out 3
              have y4 : (w13.alloc (.cells #[.int .i64 h1.phase, .int .i64 h1.gen, .int .i64 h1.next, .int .i64 h1.til, .slice va5 h1.ones.length vc5] 35)).cell? ⟨b14, 4, none⟩ = some (.slice va4 h1.ones.length vc4) := block_cell HB14.out 4
              have ylt := block_lt HB14.out
              have z0 : (w13.alloc (.cells #[.int .i64 h1.phase, .int .i64 h1.gen, .int .i64 h1.next, .int .i64 h1.til, .slice va5 h1.ones.length vc5] 35)).cell? ⟨w13.heap.size, 0, none⟩ = some (.int .i64 h1.phase) := block_cell HD14.out 0
              have z1 : (w13.alloc (.cells #[.int .i64 h1.phase, .int .i64 h1.gen, .int .i64 h1.next, .int .i64 h1.til, .slice va5 h1.ones.length vc5] 35)).cell? ⟨w13.heap.size, 1, none⟩ = some (.int .i64 h1.gen) := block_cell HD14.out 1
              have z2 : (w13.alloc (.cells #[.int .i64 h1.phase, .int .i64 h1.gen, .int .i64 h1.next, .int .i64 h1.til, .slice va5 h1.ones.length vc5] 35)).cell? ⟨w13.heap.size, 2, none⟩ = some (.int .i64 h1.next) := block_cell HD14.out 2
              have z3 : (w13.alloc (.cells #[.int .i64 h1.phase, .int .i64 h1.gen, .int .i64 h1.next, .int .i64 h1.til, .slice va5 h1.ones.length vc5] 35)).cell? ⟨w13.heap.size, 3, none⟩ = some (.int .i64 h1.til) := block_cell HD14.out 3
              have z4 : (w13.alloc (.cells #[.int .i64 h1.phase, .int .i64 h1.gen, .int .i64 h1.next, .int .i64 h1.til, .slice va5 h1.ones.length vc5] 35)).cell? ⟨w13.heap.size, 4, none⟩ = some (.slice va5 h1.ones.length vc5) := block_cell HD14.out 4
              have zlt := block_lt HD14.out
              clear kv5 p13 hk14 hva5
              go_upto_region 24 with fail
              obtain ⟨b18, hb18⟩ : ∃ b18, b18 = w13.heap.size := ⟨_, rfl⟩
              rw [← hb18] at z0 z1 z2 z3 z4 zlt ⊢
              clear hb18 HD14
              generalize w13.alloc _ = w14 at HVA14 HVB14 HB14 HP14 y0 y1 y2 y3 y4 ylt z0 z1 z2 z3 z4 zlt ⊢
              have HPN := Lib.hid (Pair.back HP6.out.keeps HK610.out HE2W.out HP14.out)
              clear HN HS HST HSP HMM HP2 HK2 HB3 HP3 HK03 HLT3 HTL HV1 HK34 HP4 HVA5 HVA10 HP12 HP11 HB11 HZ11 HP10 HB10 HZ10 HSP10 HD10
              go_wp2
              clear y0 y1 y2 y3 z0 z1 z2 z3 hse hbe
              have hol : h1.ones.length ≤ 20 := HO1.out.wf.len
              go_loopw [19] (fun i wr => ∃ m n : Nat, i = .int .i64 m ∧ m ≤ h1.ones.length ∧ wr = w14.drewN n) (fun i _ => h1.ones.length - (intOf i).toNat)
              case atStart => exact ⟨0, 0, rfl, by omega, rfl⟩
              case round =>
                obtain ⟨m, n, rfl, hmm, rfl⟩ := hrel
                by_cases hml : m < h1.ones.length
                · obtain ⟨r4, rfl, t4, tl4⟩ := view_til HVB14.out hml
                  obtain ⟨r5, rfl, t5, tl5⟩ := view_til HVA14.out hml
                  generalize h1.ones[m].til = tv at t4 t5
                  have j0 : (0 : Int) ≤ m := by omega
                  have j1 : (m : Int) < h1.ones.length := by omega
                  have HML := Lib.hid hml
                  go_wp2_with fail
                  go_quiet (fail)
                  go_wp2
                  go_roundw
                  case rel => exact ⟨m + 1, n + _, by go_num, HML.out, rfl⟩
                  case measure => have := HML.out; simp [intOf]; omega
                · clear hmm
                  go_wp2
                  go_roundw
                  case rel => exact ⟨k + 1, h1, h2, by go_num, HLT.out, HPN.out.keep ((Keeps.refl _ _).drewN _), H60.out, HO1.out.le (by have := H60.out; omega), HO2.out.le (by have := H60.out; omega)⟩
                  case measure => have := HLT.out; simp [intOf]; omega
        · have h60i : ¬ (k : Int) < 60 := by omega
          go_wp2_with fail
          refine (live_any _).mono ?_
          rintro e w2 ⟨rfl, k2⟩
          have HF := Lib.hid (K0.tr HR.out.p.keeps k2)
          clear k2
          go_wp2
          go_ret
          exact ⟨rfl, HF.out⟩
      · obtain rfl : k = l.length := by omega
        go_wp2_with fail
        refine (live_any _).mono ?_
        rintro e w2 ⟨rfl, k2⟩
        have HF := Lib.hid (K0.tr HR.out.p.keeps k2)
        clear k2
        go_wp2
        go_ret
        exact ⟨rfl, HF.out⟩
end Go.Proofs.Ytlmajhkhlmkeiaa
