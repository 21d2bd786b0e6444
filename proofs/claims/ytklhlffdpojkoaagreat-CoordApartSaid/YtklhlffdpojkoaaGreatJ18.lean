/-
  The reference's Join.
-/
import Derived.Test.YtklhlffdpojkoaaGreatJ17
namespace Go.Proofs.YtklhlffdpojkoaaGreat
open Go.RowKit Go.Shelf Fx

def RJoinPost (w : World) (F : Nat → Prop) (b : Nat) (g : GroupC) (m : Int) (topics : List ByteArray) (now : Int) (e : Ending) (w' : World) : Prop :=
  e = .returned (.tuple #[.int .i64 (if joinE g m topics now = 0 then nextM g m else 0), .int .i64 (joinE g m topics now)]) ∧ RGrpPost w F b (if joinE g m topics now = 0 then joinG g m topics now else g) w'
theorem RJoinPost.err {w w' : World} {F : Nat → Prop} {b : Nat} {g : GroupC} {m : Int} {topics : List ByteArray} {now x : Int} (h : joinE g m topics now = x) (hx : ¬ x = 0) (hq : RGrpPost w F b g w') : RJoinPost w F b g m topics now (.returned (.tuple #[.int .i64 0, .int .i64 x])) w' := by
  unfold RJoinPost
  rw [h, if_neg hx, if_neg hx]
  exact ⟨rfl, hq⟩
theorem joinBad_is (m : Int) (topics : List ByteArray) (now : Int) : joinBad m topics now = true ↔ (timeOk now = false ∨ chain sltB topics = false ∨ 20 < topics.length ∨ m < -1) := by
  unfold joinBad
  rw [chk_one]
  cases h1 : timeOk now <;> cases h2 : chain sltB topics <;> by_cases h3 : topics.length ≤ 20 <;> by_cases h4 : m < -1 <;> simp [h3, h4] <;> omega
theorem joinE_mem {g : GroupC} {m : Int} {topics : List ByteArray} {now : Int} (h0 : joinBad m topics now = false) (h1 : ¬ m = -1) (h2 : hasM g m = false) : joinE g m topics now = 11 := by
  unfold joinE
  rw [if_neg (by rw [h0]; simp), if_pos (by simp [h1, h2])]
theorem joinE_full {g : GroupC} {m : Int} {topics : List ByteArray} {now : Int} (h0 : joinBad m topics now = false) (h1 : m = -1) (h2 : 20 ≤ g.ones.length) : joinE g m topics now = 5 := by
  unfold joinE
  rw [if_neg (by rw [h0]; simp), if_neg (by simp [h1]), if_pos (by simp [h1, h2])]
theorem joinE_fine {g : GroupC} {m : Int} {topics : List ByteArray} {now : Int} (h0 : joinBad m topics now = false) (h1 : (m = -1 ∧ g.ones.length < 20) ∨ (¬ m = -1 ∧ hasM g m = true)) : joinE g m topics now = 0 := by
  unfold joinE
  rw [if_neg (by rw [h0]; simp)]
  rcases h1 with ⟨h1, h2⟩ | ⟨h1, h2⟩
  · rw [if_neg (by simp [h1]), if_neg (by simp [h1, h2])]
  · rw [if_neg (by simp [h2]), if_neg (by simp [h1])]
/-- A step of a region that draws its order: an append whose run is known. -/
theorem step_appRun {P : Program} {w w4 : World} {ops : Array Oper} {o : Oper} {a : Act} {K : Act → World → Prop} {Q : Exit → Act → World → Prop} {E : Prop} (hgd : o.guard = none) {s x : Operand} {t : TypeId}
    (ho : o.op = .call { callee := .builtin .append, args := #[s, x], argTypes := #[t, t] }) {v vx r : Value} (hs : a.eval s = v) (hx : a.eval x = vx) (hrun : (Builtin.append_ #[t, t] o.type #[v, vx]).run P w = .ok r w4)
    (h : K (a.put o.dst r) w4) : if Region.wanted o (yielded ops a.tmps) = true then Oper.wp P o a w K Q else E := by
  have hw : Region.wanted o (yielded ops a.tmps) = true := by simp [Region.wanted, hgd]
  rw [if_pos hw]
  unfold Oper.wp execOp
  simp only [ho, resolve, invoke, builtin, Sem.run_bind, Sem.run_pure, Result.andThen_ok, List.map_toArray, List.map_cons, List.map_nil, hs, hx, hrun]
  exact h
/-- One member's topics are set. -/
def TopRel (wh : World) (F2 : Nat → Prop) (b : Nat) (g' : GroupC) (r n cap i : Nat) (m : Int) (wz : World) : Prop :=
  ∃ F3 L3, RGrpAt wz F3 b g' (.slice (some ⟨r, 0, none⟩) n cap) L3 ∧ L3.length = n ∧ RiseM L3 ∧ (∃ h : i < L3.length, L3[i].member = m) ∧ (∀ k, F3 k → F2 k ∨ wh.heap.size ≤ k) ∧ Keeps F2 wh wz
theorem TopRel.of {wh w4 : World} {F2 : Nat → Prop} {b r cap i c4 : Nat} {g2 : GroupC} {L2 : List OneV} {m : Int} {topics : List ByteArray} {a4 : Option Addr} (h : RGrpAt wh F2 b g2 (.slice (some ⟨r, 0, none⟩) L2.length cap) L2) (hr : RiseM L2) (hi : i < L2.length) (hm : L2[i].member = m)
    (hk : K0 (wh.setCell ⟨r, i * 5 + 1, none⟩ (.slice none 0 0)) w4) (ho : Out 1 rStr w4 (fun k => (wh.setCell ⟨r, i * 5 + 1, none⟩ (.slice none 0 0)).drew.heap.size ≤ k) (.slice a4 topics.length c4) topics) :
    TopRel wh F2 b (setT g2 m topics) r L2.length cap i m (w4.setCell ⟨r, i * 5 + 1, none⟩ (.slice a4 topics.length c4)) := by
  have ho2 : Out 1 rStr w4 (fun k => wh.heap.size ≤ k) (.slice a4 topics.length c4) topics := ho.keep still_str (Keeps.refl (fun _ => False) _) (fun _ _ _ e => e) (fun k _ e => by
    have e : (wh.setCell ⟨r, i * 5 + 1, none⟩ (.slice none 0 0)).heap.size ≤ k := e
    simpa [World.setCell] using e)
  obtain ⟨h1, h2⟩ := h.setTop hr hi hm hk ho2
  exact ⟨_, _, h1, by simp, hr.modify _ _ (fun _ => rfl), ⟨by simpa using hi, (mem_modify_member (L := L2) (i := i) (f := fun x => { x with tv := .slice a4 topics.length c4, topics := topics }) (fun _ => rfl) (by simpa using hi)).trans hm⟩, fun k e => e.elim .inl (fun e => .inr e.1), h2.mono fun k _ e => by subst e; exact (h.own k rfl).1⟩
theorem fin_of {wh wi wz : World} {F2 F3 : Nat → Prop} {b r cap i : Nat} {g2 : GroupC} {L3 : List OneV} {m t : Int} {topics : List ByteArray} (h : RGrpAt wi F3 b (setT g2 m topics) (.slice (some ⟨r, 0, none⟩) L3.length cap) L3) (hr : RiseM L3) (hi : i < L3.length) (hm : L3[i].member = m)
    (hF : ∀ k, F3 k → F2 k ∨ wh.heap.size ≤ k) (hk : Keeps F2 wh wi) (hFr : F2 r) (hz : wz.heap = ((wi.setCell ⟨r, i * 5 + 3, none⟩ (.bool true)).setCell ⟨r, i * 5 + 2, none⟩ (.int .i64 t)).heap) (ho : wz.os = wi.os ∧ wz.tape = wi.tape ∧ wz.output = wi.output) : RGrpPost wh F2 b (setG g2 m topics t) wz := by
  rw [← setJT]
  have h1 := h.setFin hr hi hm t
  have hks : Keeps F2 wi ((wi.setCell ⟨r, i * 5 + 3, none⟩ (.bool true)).setCell ⟨r, i * 5 + 2, none⟩ (.int .i64 t)) := ((Keeps.refl F2 wi).setC _ _ (fun _ => hFr)).setC _ _ (fun _ => hFr)
  have hk0 : K0 ((wi.setCell ⟨r, i * 5 + 3, none⟩ (.bool true)).setCell ⟨r, i * 5 + 2, none⟩ (.int .i64 t)) wz := ⟨ho.1, ho.2.1, ho.2.2, by rw [hz]; exact Nat.le_refl _, fun k _ _ => by rw [hz]⟩
  exact ⟨F3, ⟨_, _, h1.keep hk0 (fun _ _ e => e)⟩, hF, (hk.trans hks (fun _ _ e => e)).trans hk0 (fun _ _ e => e.elim)⟩
/-- The append of the topics onto nil. -/
theorem app_topics {w : World} {G : Nat → Prop} {ta : Option Addr} {tc : Nat} {topics : List ByteArray} (ht : Out 1 rStr w G (.slice ta topics.length tc) topics) (htl : topics.length ≤ 1000) :
    ∃ (a4 : Option Addr) (c4 : Nat) (w4 : World), ((Builtin.append_ #[31, 31] 31 #[.slice none 0 0, .slice ta topics.length tc]).run Tryz.prog w = .ok (.slice a4 topics.length c4) w4) ∧ K0 w w4 ∧ Out 1 rStr w4 (fun k => w.heap.size ≤ k) (.slice a4 topics.length c4) topics := by
  obtain ⟨i, hi, hz, hz1, hz2⟩ := info_parts infoStr
  by_cases h0 : topics = []
  · subst h0
    refine ⟨none, 0, w, ?_, Keeps.refl _ _, Out.nil _ _ _ _⟩
    cases ta <;> simp [Builtin.append_, run_underlying Tryz.underlying31, sizeOf, typeInfo, hi, Builtin.lenOf, Builtin.firstCells, loadCells, loadCellsFrom]
  · obtain ⟨a, cap, e, ⟨h1, h2, h3⟩, _⟩ := ht
    cases e
    obtain ⟨tb, off, rfl, hr⟩ := h3 h0
    obtain ⟨news, hn1, hn2, hn3⟩ := cells_ofR (by omega) plain_str hr
    have hpos : 0 < topics.length := List.length_pos_iff.2 h0
    have hrun := run_append_lies (P := Tryz.prog) w 31 31 w.heap.size 9 i _ 1 16 Tryz.underlying31 hi hz hz1 hz2 rfl (by decide) (.slice none 0 0) 0 [] (World.ownsRow_nil _ _ _ _) ⟨tb, off, none⟩ topics.length tc news hn1.1 hn2 hn3 hpos (by unfold maxLen; omega) (by omega) (Nat.le_refl _) _ rfl
    obtain ⟨g4, c4, w4, hr4, ho4, hg4, ha4, hl4⟩ := hrun
    simp only [Nat.zero_add, List.nil_append] at ho4 hr4
    exact ⟨_, c4, w4, hr4, (Keeps.refl (fun _ => False) w).grown hg4 (fun k e => by cases e), own_cells still_str ho4 hn1⟩
set_option maxRecDepth 100000 in
set_option maxHeartbeats 4000000 in
theorem rjoin_any (w : World) (F : Nat → Prop) (b : Nat) (g : GroupC) (m now : Int) (tv : Value) (topics : List ByteArray) (h : RGrp w F b g) (hw : WfG g) (hm : -9223372036854775808 ≤ m ∧ m ≤ 9223372036854775807) (hnx : g.next + 1 ≤ 1152921504606846976) (htl : topics.length ≤ 1000)
    (ht : Out 1 rStr w (fun k => ¬ F k) tv topics) :
    Calls Tryz.prog 51 #[.pointer (some ⟨b, 0, none⟩), .int .i64 m, tv, .int .i64 now] w fun e w' => RJoinPost w F b g m topics now e w' := by
  obtain ⟨v, L, h⟩ := h
  have HOUT := Lib.hid ht
  obtain ⟨ta, tc, rfl, hsl, _⟩ := ht
  have HT := Lib.hid (rtime_any now w)
  have HRI := Lib.hid (fun (wx : World) (hk : K0 w wx) => rises15 w wx ta tc topics hsl (K0.below hk))
  have hl : L.length ≤ 20 := by have := hw.len; have := h.len; omega
  have HH := Lib.hid h
  have HW := Lib.hid hw
  have HNX := Lib.hid hnx
  have HMM := Lib.hid hm
  have HSELF : Hid (∀ wx, K0 w wx → RGrpPost w F b g wx) := fun wx hk => ⟨F, ⟨v, L, HH.out.keep hk fun _ _ e => e⟩, fun k e => .inl e, hk.mono fun _ _ e => e.elim⟩
  have htl0 : (topics.length : Int) ≤ 1000 := by omega
  clear h hw hnx hsl
  cases ht : timeOk now with
  | false =>
    have HE : Hid (joinE g m topics now = 1) := joinE_bad ((joinBad_is _ _ _).2 (.inl ht))
    rw [ht] at HT
    clear ht
    go_enter Tryz.func51, Tryz.ntmps51
    go_wp2_with fail
    refine HT.out.mono ?_
    rintro e w1 ⟨rfl, hk⟩
    go_wp2
    go_ret2
    exact RJoinPost.err HE.out (by decide) (HSELF.out _ hk)
  | true =>
    have HTT := Lib.hid ht
    have HN := Lib.hid (time_yes ht)
    rw [ht] at HT
    clear ht
    cases hc : chain sltB topics with
    | false =>
      have HE : Hid (joinE g m topics now = 1) := joinE_bad ((joinBad_is _ _ _).2 (.inr (.inl hc)))
      rw [hc] at HRI
      clear hc
      go_enter Tryz.func51, Tryz.ntmps51
      go_wp2_with fail
      refine HT.out.mono ?_
      rintro e w1 ⟨rfl, hk⟩
      have HK := Lib.hid hk
      clear hk
      go_wp2_with fail
      refine (HRI.out _ HK.out).mono ?_
      rintro e w2 ⟨rfl, nn, rfl⟩
      go_wp2
      go_ret2
      exact RJoinPost.err HE.out (by decide) (HSELF.out _ (HK.out.drewN _))
    | true =>
      have HCH := Lib.hid hc
      rw [hc] at HRI
      clear hc
      have early : ∀ x : Int, ¬ x = 0 → joinE g m topics now = x → (20 < topics.length ∨ m < -1) → x = 1 → Calls Tryz.prog 51 #[.pointer (some ⟨b, 0, none⟩), .int .i64 m, .slice ta topics.length tc, .int .i64 now] w fun e w' => RJoinPost w F b g m topics now e w' := by
        intro x hx0 hxe hor hx1
        subst hx1
        have HE := Lib.hid hxe
        clear hxe
        by_cases h20 : 20 < (topics.length : Int)
        · clear hor
          go_enter Tryz.func51, Tryz.ntmps51
          go_wp2_with fail
          refine HT.out.mono ?_
          rintro e w1 ⟨rfl, hk⟩
          have HK := Lib.hid hk
          clear hk
          go_wp2_with fail
          refine (HRI.out _ HK.out).mono ?_
          rintro e w2 ⟨rfl, nn, rfl⟩
          go_wp2
          go_ret2
          exact RJoinPost.err HE.out (by decide) (HSELF.out _ (HK.out.drewN _))
        · have hm1 : m < -1 := hor.resolve_left (by omega)
          clear hor
          go_enter Tryz.func51, Tryz.ntmps51
          go_wp2_with fail
          refine HT.out.mono ?_
          rintro e w1 ⟨rfl, hk⟩
          have HK := Lib.hid hk
          clear hk
          go_wp2_with fail
          refine (HRI.out _ HK.out).mono ?_
          rintro e w2 ⟨rfl, nn, rfl⟩
          go_wp2
          go_ret2
          exact RJoinPost.err HE.out (by decide) (HSELF.out _ (HK.out.drewN _))
      by_cases h20 : 20 < topics.length
      · exact early 1 (by decide) (joinE_bad ((joinBad_is _ _ _).2 (.inr (.inr (.inl h20))))) (.inl h20) rfl
      by_cases hm1 : m < -1
      · exact early 1 (by decide) (joinE_bad ((joinBad_is _ _ _).2 (.inr (.inr (.inr hm1))))) (.inr hm1) rfl
      clear early
      have HNB : Hid (joinBad m topics now = false) := by
        show _ = _
        cases hb : joinBad m topics now with
        | false => rfl
        | true =>
          have h9 := HTT.out
          have h8 := HCH.out
          rcases (joinBad_is _ _ _).1 hb with e | e | e | e
          · rw [h9] at e; cases e
          · rw [h8] at e; cases e
          · exact absurd e h20
          · exact absurd e hm1
      have h20i : (topics.length : Int) ≤ 20 := by omega
      have hgood : (m = -1 ∧ L.length < 20) ∨ (¬ m = -1 ∧ hasM g m = true) ∨ (m = -1 ∧ 20 ≤ L.length) ∨ (¬ m = -1 ∧ hasM g m = false) := by
        by_cases hmn : m = -1
        · by_cases hf : 20 ≤ L.length
          · exact .inr (.inr (.inl ⟨hmn, hf⟩))
          · exact .inl ⟨hmn, by omega⟩
        · cases hh : hasM g m with
          | true => exact .inr (.inl ⟨hmn, rfl⟩)
          | false => exact .inr (.inr (.inr ⟨hmn, rfl⟩))
      by_cases hbadc : (m = -1 ∧ 20 ≤ L.length) ∨ (¬ m = -1 ∧ hasM g m = false)
      · clear hgood
        rcases hbadc with ⟨hmn, hfull⟩ | ⟨hmn, hh⟩
        · have HE : Hid (joinE g m topics now = 5) := joinE_full HNB.out hmn (by rw [HH.out.len]; exact hfull)
          have hfi : (20 : Int) ≤ L.length := by omega
          clear h20 hm1 hfull
          go_enter Tryz.func51, Tryz.ntmps51
          go_wp2_with fail
          refine HT.out.mono ?_
          rintro e w1 ⟨rfl, hk⟩
          have HK := Lib.hid hk
          clear hk
          go_wp2_with fail
          refine (HRI.out _ HK.out).mono ?_
          rintro e w2 ⟨rfl, nn, rfl⟩
          have hg2 := HH.out.keep (HK.out.drewN nn) (fun _ _ e => e)
          have c6 : (w1.drewN nn).cell? ⟨b, 6, none⟩ = some v := block_cell hg2.blk 6
          have hb2 := block_lt hg2.blk
          obtain ⟨va, vc, rfl⟩ := own_slice hg2.row
          clear hg2
          subst hmn
          go_wp2
          go_ret2
          exact RJoinPost.err HE.out (by decide) (HSELF.out _ (HK.out.drewN _))
        · have hm0 : 0 ≤ m := by omega
          have HE : Hid (joinE g m topics now = 11) := joinE_mem HNB.out hmn hh
          have HH1 := Lib.hid hh
          clear h20 hm1 hh
          go_enter Tryz.func51, Tryz.ntmps51
          go_wp2_with fail
          refine HT.out.mono ?_
          rintro e w1 ⟨rfl, hk⟩
          have HK := Lib.hid hk
          clear hk
          go_wp2_with fail
          refine (HRI.out _ HK.out).mono ?_
          rintro e w2 ⟨rfl, nn, rfl⟩
          have HG2 := Lib.hid (HH.out.keep (HK.out.drewN nn) (fun _ _ e => e))
          go_wp2_with fail
          refine (rfind_any m HG2.out (by omega)).mono ?_
          rintro e w3 ⟨x, rfl, rfl, hf⟩
          rcases hf.has HG2.out with ⟨e, _⟩ | ⟨_, rfl⟩
          · rw [HH1.out] at e; cases e
          clear hf
          go_wp2
          go_ret2
          exact RJoinPost.err HE.out (by decide) (HSELF.out _ (HK.out.drewN _))
      have hg3 : (m = -1 ∧ L.length < 20) ∨ (¬ m = -1 ∧ hasM g m = true) := by
        rcases hgood with h | h | h | h
        · exact .inl h
        · exact .inr h
        · exact absurd (.inl h) hbadc
        · exact absurd (.inr h) hbadc
      have HGD := Lib.hid hg3
      have hm1' : -1 ≤ m := by omega
      have HE : Hid (joinE g m topics now = 0) := joinE_fine HNB.out (hg3.elim (fun h => .inl ⟨h.1, by rw [HH.out.len]; exact h.2⟩) .inr)
      clear hgood hbadc hg3 h20 hm1
      go_enter Tryz.func51, Tryz.ntmps51
      go_wp2_with fail
      refine HT.out.mono ?_
      rintro e w1 ⟨rfl, hk⟩
      have HK := Lib.hid hk
      clear hk
      go_wp2_with fail
      refine (HRI.out _ HK.out).mono ?_
      rintro e w2 ⟨rfl, nn, rfl⟩
      have HK2 := Lib.hid (HK.out.drewN nn)
      generalize w1.drewN nn = we at HK2 ⊢
      clear HK HRI HT
      have HG2 := Lib.hid (HH.out.keep HK2.out (fun _ _ e => e))
      go_upto_region 3 with fail
      go_cut [35] (fun tv wq => tv = .bool false ∧ wq = we)
      case first =>
        rcases HGD.out with ⟨hmn, _⟩ | ⟨hmn, hh⟩
        · subst hmn
          go_wp2
          go_meet
          case rel => exact ⟨rfl, rfl⟩
        · have hm0 : 0 ≤ m := by omega
          have HFH := Lib.hid (rfind_has m HG2.out (by omega) hh)
          clear hh
          go_wp2_with fail
          refine HFH.out.mono ?_
          rintro e w3 ⟨i, hi, rfl, rfl, _⟩
          have i0 : (0 : Int) ≤ i := by omega
          go_wp2
          go_meet
          case rel => exact ⟨rfl, rfl⟩
      case rest =>
        obtain ⟨rfl, rfl⟩ := hcut
        obtain ⟨we, rfl⟩ : ∃ we : World, we = wc := ⟨_, rfl⟩
        obtain ⟨a0, cap0, rfl⟩ := own_slice HH.out.row
        have hx6 : we.cell? ⟨b, 6, none⟩ = some (.slice a0 L.length cap0) := block_cell HG2.out.blk 6
        have hbe := block_lt HG2.out.blk
        go_upto_if 37 with fail
        go_cut [1] (fun mv wq => mv = .int .i64 (nextM g m) ∧ RGrpPost w F b (addG g m) wq)
        case first =>
          rcases HGD.out with ⟨h1, hl20⟩ | ⟨h1, _⟩
          · subst h1
            have hgd := HG2.out
            have hx4 : we.cell? ⟨b, 4, none⟩ = some (.int .i64 g.next) := block_cell hgd.blk 4
            have hf4 := block_free hgd.blk 4
            have hvb : (Value.slice a0 L.length cap0).ownBlock ≠ some b := fun e => (hgd.own b e).2 rfl
            have hown1 : (we.setCell ⟨b, 4, none⟩ (.int .i64 (g.next + 1))).ownsRow 0 111 5 (.slice a0 L.length cap0) L.length (L.flatMap oneEnc) := own_keep ((Keeps.refl (fun k => k = b) we).setC 4 _ (fun _ => rfl)) hgd.row (fun k e => (hgd.own k e).2)
            have HAD := Lib.hid (fun (o : Obj) (g1 cap1 : Nat) (w1 : World) (hA : App1 ((we.setCell ⟨b, 4, none⟩ (.int .i64 (g.next + 1))).alloc o) 0 111 5 (.slice a0 L.length cap0) L.length (L.flatMap oneEnc ++ [.int .i64 g.next, .slice none 0 0, .int .i64 0, .bool false, .slice none 0 0]) g1 cap1 w1) => hgd.add hA)
            have HA1 : Hid (∀ (o : Obj) (xs' : List Value) (g1 cap1 : Nat) (w1 : World), App1 ((we.setCell ⟨b, 4, none⟩ (.int .i64 (g.next + 1))).alloc o) 0 111 5 (.slice a0 L.length cap0) L.length xs' g1 cap1 w1 → w1.cell? ⟨b, 6, none⟩ = some (.slice a0 L.length cap0) ∧ w1.frozen? ⟨b, 6, none⟩ = false) := by
              intro o xs' g1 cap1 w1 hA
              have e := hA.far (block_alloc (setCell_block hgd.blk 4 (.int .i64 (g.next + 1))) o) hvb
              exact ⟨block_cell e 6, block_free e 6⟩
            have hx6b : (we.setCell ⟨b, 4, none⟩ (.int .i64 (g.next + 1))).cell? ⟨b, 6, none⟩ = some (.slice a0 L.length cap0) := block_cell (setCell_block hgd.blk 4 (.int .i64 (g.next + 1))) 6
            have hnx := HNX.out
            have hnx0 := HW.out.next.1
            have hl20i : (L.length : Int) < 20 := by omega
            clear hgd hvb
            generalize hxs : L.flatMap oneEnc = xs at hown1 HAD
            generalize hnn : g.next = nx at hx4 hown1 HAD HA1 hnx hnx0 hx6b
            have HNN := Lib.hid hnn
            clear hxs hnn
            go_wp2_with (at_builtin; refine wpList_app1 rfl rfl Tryz.underlying79 infoROne rfl (by decide) rfl (hown1.alloc _) rfl (heap_new _ _ _ (by simp)) rfl rfl ⟨by omega, by decide⟩ (Nat.zero_le _) ?_; intro g1 cap1 w4 hA; obtain ⟨q1, q2⟩ := HA1.out _ _ _ _ _ hA; have q3 := cell_block1 q1; have HA := Lib.hid hA)
            go_meet
            case rel => exact ⟨by rw [← HNN.out]; rfl, RGrpPost.trans (fun k e => .inl e) (HK2.out.mono fun _ _ e => e.elim) (HAD.out _ _ _ _ HA.out)⟩
          · have h1' : (m == -1) = false := by simpa using h1
            have H1 := Lib.hid h1
            clear h1
            go_wp2
            go_meet
            case rel => exact ⟨by unfold nextM; rw [if_neg H1.out], by unfold addG; rw [if_neg H1.out]; exact HSELF.out _ HK2.out⟩
        case rest =>
          obtain ⟨wf, rfl⟩ : ∃ wf : World, wf = wc := ⟨_, rfl⟩
          obtain ⟨rfl, F1, ⟨v1, L1, hg1⟩, hF1, hk1⟩ := hcut
          have hl20 : m = -1 → g.ones.length < 20 := fun e => by
            rcases HGD.out with ⟨_, h⟩ | ⟨h, _⟩
            · rw [HH.out.len]; exact h
            · exact absurd e h
          have hhas : hasM (addG g m) (nextM g m) = true := has_add (HGD.out.elim (fun h => .inl h.1) (fun h => .inr h.2))
          have HPRE := Lib.hid (tail_pre HW.out hl20 HNX.out hhas HMM.out (now := now))
          have HP1 : Hid (∀ g2 wz, RGrpPost wf F1 b g2 wz → RGrpPost w F b g2 wz) := fun g2 wz hq => RGrpPost.trans hF1 hk1 hq
          have HTV := Lib.hid (HOUT.out.keep still_str hk1 (G' := fun k => ¬ F1 k) (fun k _ e => e) (fun k hk e e2 => (hF1 k e2).elim e (fun e3 => by omega)))
          have HJ : Hid (∀ wz, RGrpPost w F b (finG (setG (startG (addG g m) now) (nextM g m) topics (now + g.session)) now) wz → RJoinPost w F b g m topics now (.returned (.tuple #[.int .i64 (nextM g m), .int .i64 0])) wz) := fun wz hq => by
            unfold RJoinPost
            rw [HE.out, if_pos rfl, if_pos rfl]
            exact ⟨rfl, hq⟩
          clear hl20 hhas hF1 hk1 hx6 HG2 HK2 hbe
          have HPP := Lib.hid HPRE.out.1
          have HWA := Lib.hid HPRE.out.2.1
          have HN2 := HN.out
          generalize nextM g m = m' at *
          generalize addG g m = g1 at *
          have hl1 : L1.length ≤ 20 := by rw [← hg1.len]; exact HWA.out.len
          have hx2 : wf.cell? ⟨b, 2, none⟩ = some (.int .i64 g1.phase) := block_cell hg1.blk 2
          have hbf := block_lt hg1.blk
          have HAN := Lib.hid (ranew_any wf F1 b g1 v1 L1 now hg1 (by omega) HN2 ⟨by have := HWA.out.reb; omega, HWA.out.reb.2⟩)
          have HG1 := Lib.hid hg1
          clear hg1
          go_upto_if 70 with fail
          go_cut [] (fun wq => RGrpPost wf F1 b (startG g1 now) wq)
          case first =>
            by_cases hp : g1.phase = 1
            · have HST : Hid (startG g1 now = g1) := if_pos hp
              rw [hp] at hx2
              go_wp2
              go_meet
              case rel => rw [HST.out]; exact ⟨F1, ⟨v1, L1, HG1.out⟩, fun k e => .inl e, Keeps.refl _ _⟩
            · have HST : Hid (startG g1 now = anewG g1 now) := if_neg hp
              have hp' : (g1.phase != 1) = true := by simpa using hp
              clear hp
              generalize g1.phase = ph at hx2 hp'
              go_wp2_with fail
              refine HAN.out.mono ?_
              rintro e wg ⟨rfl, hq⟩
              have HQQ := Lib.hid hq
              clear hq
              go_wp2
              go_meet
              case rel => rw [HST.out]; exact HQQ.out
          case rest =>
            obtain ⟨wg, rfl⟩ : ∃ wg : World, wg = wc := ⟨_, rfl⟩
            obtain ⟨F2, ⟨v2, L2, hg2⟩, hF2, hk2⟩ := hcut
            have HP2 : Hid (∀ g2 wz, RGrpPost wg F2 b g2 wz → RGrpPost w F b g2 wz) := fun g2 wz hq => HP1.out _ _ (RGrpPost.trans hF2 hk2 hq)
            have HTV2 := Lib.hid (HTV.out.keep still_str hk2 (G' := fun k => ¬ F2 k) (fun k _ e => e) (fun k hk e e2 => (hF2 k e2).elim e (fun e3 => by omega)))
            have HW2 := Lib.hid HPRE.out.2.2.1
            have HHA := Lib.hid HPRE.out.2.2.2.1
            have HSE := Lib.hid HPRE.out.2.2.2.2
            clear hF2 hk2 HAN HP1 HTV hx2 hbf
            generalize startG g1 now = g2 at *
            have hl2 : L2.length ≤ 20 := by rw [← hg2.len]; exact HW2.out.len
            have HFI := Lib.hid (rfind_has m' hg2 (by omega) HHA.out)
            have HG2 := Lib.hid hg2
            have hfo := hg2.form
            clear hg2
            go_wp2_with fail
            refine HFI.out.mono ?_
            rintro e wh ⟨i, hi, rfl, rfl, hmi⟩
            rcases hfo with ⟨h0, _⟩ | ⟨r, cap, rfl, hrb, hrl, hcap, hFr⟩
            · rw [h0] at hi; exact absurd hi (Nat.not_lt_zero _)
            have hcs := HG2.out.cell rfl i hi
            have c1 := hcs.2.1
            have f1 := HG2.out.row.frozenAt (i * 5 + 1)
            have c6 : wh.cell? ⟨b, 6, none⟩ = some (.slice (some ⟨r, 0, none⟩) L2.length cap) := block_cell HG2.out.blk 6
            have hb2 := block_lt HG2.out.blk
            have hbr : b ≠ r := fun e => hrb e.symm
            have i0 : (0 : Int) ≤ i := by omega
            have i1 : (i : Int) < L2.length := by omega
            have hkn : Keeps (fun k => k = r) wh (wh.setCell ⟨r, i * 5 + 1, none⟩ (.slice none 0 0)) := (Keeps.refl (fun k => k = r) wh).setC _ _ (fun _ => rfl)
            have htv4 := (HTV2.out.keep still_str hkn (G' := fun k => ¬ F2 k) (fun k _ e e2 => by have e2 : k = r := e2; subst e2; exact e hFr) (fun _ _ e => e)).keep still_str ((Keeps.refl (fun _ => False) _).drew) (G' := fun k => ¬ F2 k) (fun _ _ _ e => e) (fun _ _ e => e)
            obtain ⟨a4, c4, w4, hrun, hk4, ho4⟩ := app_topics htv4 htl
            have HO4 := Lib.hid ho4
            have HK4 : Hid (K0 (wh.setCell ⟨r, i * 5 + 1, none⟩ (.slice none 0 0)) w4) := (Keeps.refl (fun _ => False) _).drew.trans hk4 (fun _ _ e => e)
            have hw6 : w4.cell? ⟨b, 6, none⟩ = some (.slice (some ⟨r, 0, none⟩) L2.length cap) := HK4.out.cell' (hkn.cell' c6 (fun e => hrb e.symm)) (fun e => e)
            have hrow4 := own_keep HK4.out (HG2.out.row.stored (i * 5 + 1) (.slice none 0 0)).1 (fun _ _ e => e)
            have hw1 : w4.cell? ⟨r, i * 5 + 1, none⟩ = some (.slice none 0 0) := by
              rw [hrow4.cellAt (i * 5 + 1) (by omega), List.getElem?_set_self (by rw [flat_len oneEnc 5 oneEnc_len]; omega)]
            have hwf1 := hrow4.frozenAt (i * 5 + 1)
            have hwb : b < w4.heap.size := cell_block1 hw6
            have hwr : r < w4.heap.size := cell_block1 hw1
            have hd6 : (wh.setCell ⟨r, i * 5 + 1, none⟩ (.slice none 0 0)).drew.cell? ⟨b, 6, none⟩ = some (.slice (some ⟨r, 0, none⟩) L2.length cap) := hkn.cell' c6 (fun e => hrb e.symm)
            have hd1 : (wh.setCell ⟨r, i * 5 + 1, none⟩ (.slice none 0 0)).drew.cell? ⟨r, i * 5 + 1, none⟩ = some (.slice none 0 0) := by
              have h9 := (HG2.out.row.stored (i * 5 + 1) (.slice none 0 0)).1
              show (wh.setCell ⟨r, i * 5 + 1, none⟩ (.slice none 0 0)).cell? ⟨r, i * 5 + 1, none⟩ = _
              rw [h9.cellAt (i * 5 + 1) (by omega), List.getElem?_set_self (by rw [flat_len oneEnc 5 oneEnc_len]; omega)]
            have hdb : b < (wh.setCell ⟨r, i * 5 + 1, none⟩ (.slice none 0 0)).drew.heap.size := cell_block1 hd6
            have hdr : r < (wh.setCell ⟨r, i * 5 + 1, none⟩ (.slice none 0 0)).drew.heap.size := cell_block1 hd1
            have HHI := Lib.hid hi
            clear hcs hkn htv4 hk4 ho4 hrow4
            generalize L2[i].tv = x1 at c1
            go_upto_region 15 with fail
            go_cut [] (TopRel wh F2 b (setT g2 m' topics) r L2.length cap i m')
            case first =>
              go_region_law (refine step_appRun rfl rfl rfl rfl hrun ?_)
              all_goals (go_wp2; go_meet; case rel => (exact TopRel.of HG2.out (HG2.out.rise HW2.out) HHI.out hmi HK4.out HO4.out))
            case rest =>
              obtain ⟨wi, rfl⟩ : ∃ wi : World, wi = wc := ⟨_, rfl⟩
              obtain ⟨F3, L3, hg3, hl3, hr3, ⟨hi3, hm3⟩, hF3, hk3⟩ := hcut
              clear hw6 hw1 hwf1 hwb hwr hd6 hd1 hdb hdr hrun HO4 HK4 c1 f1 c6 hb2 hrl
              rw [← hl3] at hg3
              have hcs := hg3.cell rfl i hi3
              have HL3 := Lib.hid hl3
              have hlen3 : L3.length ≤ 20 := by omega
              have d3 := hcs.2.2.2.1
              have e3 := hg3.row.frozenAt (i * 5 + 3)
              have e2 := hg3.row.frozenAt (i * 5 + 2)
              have d6 : wi.cell? ⟨b, 6, none⟩ = some (.slice (some ⟨r, 0, none⟩) L3.length cap) := block_cell hg3.blk 6
              have d0 : wi.cell? ⟨b, 0, none⟩ = some (.int .i64 g2.session) := block_cell hg3.blk 0
              have hbi := block_lt hg3.blk
              have hkj : Keeps (fun k => k = r) wi (wi.setCell ⟨r, i * 5 + 3, none⟩ (.bool true)) := (Keeps.refl (fun k => k = r) wi).setC _ _ (fun _ => rfl)
              have hrowj := (hg3.row.stored (i * 5 + 3) (.bool true)).1
              have hj6 : (wi.setCell ⟨r, i * 5 + 3, none⟩ (.bool true)).drew.cell? ⟨b, 6, none⟩ = some (.slice (some ⟨r, 0, none⟩) L3.length cap) := hkj.cell' d6 (fun e => hrb e.symm)
              have hj0 : (wi.setCell ⟨r, i * 5 + 3, none⟩ (.bool true)).drew.cell? ⟨b, 0, none⟩ = some (.int .i64 g2.session) := hkj.cell' d0 (fun e => hrb e.symm)
              have hj2 : (wi.setCell ⟨r, i * 5 + 3, none⟩ (.bool true)).drew.cell? ⟨r, i * 5 + 2, none⟩ = some (.int .i64 L3[i].til) := by
                show (wi.setCell ⟨r, i * 5 + 3, none⟩ (.bool true)).cell? ⟨r, i * 5 + 2, none⟩ = _
                rw [hrowj.cellAt (i * 5 + 2) (by omega), List.getElem?_set_ne (by omega), flatMap_get oneEnc 5 oneEnc_len L3 i 2 hi3 (by omega)]
                rfl
              have hjf : (wi.setCell ⟨r, i * 5 + 3, none⟩ (.bool true)).drew.frozen? ⟨r, i * 5 + 2, none⟩ = false := hrowj.frozenAt (i * 5 + 2)
              have hjb : b < (wi.setCell ⟨r, i * 5 + 3, none⟩ (.bool true)).drew.heap.size := cell_block1 hj6
              have hjr : r < (wi.setCell ⟨r, i * 5 + 3, none⟩ (.bool true)).drew.heap.size := cell_block1 hj2
              have hss := HW2.out.ses
              have HG3 := Lib.hid hg3
              have HR3 := Lib.hid hr3
              have HM3 := Lib.hid hm3
              have HF3 := Lib.hid hF3
              have HK3 := Lib.hid hk3
              have i2 : (i : Int) < L3.length := by omega
              generalize L3[i].joined = jv at d3
              generalize L3[i].til = tl at hj2
              generalize hse : g2.session = se at d0 hj0 hss
              have HSE2 := Lib.hid hse
              have HI3 := Lib.hid hi3
              clear hg3 hr3 hm3 hF3 hk3 hcs hkj hrowj hse HG2 HFI
              go_upto_region 17 with fail
              go_cut [] (fun wz => RGrpPost wh F2 b (setG g2 m' topics (now + se)) wz)
              case first =>
                go_region
                all_goals (go_wp2; go_meet; case rel => ((try rw [show IntKind.i64.wrap (now + se) = now + se from IntWalk.i64_in _ (by omega)]); exact fin_of HG3.out HR3.out HI3.out HM3.out HF3.out HK3.out hFr rfl ⟨rfl, rfl, rfl⟩))
              case rest =>
                obtain ⟨wk, rfl⟩ : ∃ wk : World, wk = wc := ⟨_, rfl⟩
                obtain ⟨F4, ⟨v4, L4, hg4⟩, hF4, hk4⟩ := hcut
                have HP4 : Hid (∀ g2 wz, RGrpPost wk F4 b g2 wz → RGrpPost w F b g2 wz) := fun g2 wz hq => HP2.out _ _ (RGrpPost.trans hF4 hk4 hq)
                have hss2 : g.session = se := by rw [← HSE.out, HSE2.out]
                rw [hss2] at HJ
                have hglen : (setG g2 m' topics (now + se)).ones.length = g2.ones.length := by simp [setG]
                have hgreb : (setG g2 m' topics (now + se)).rebalance = g2.rebalance := rfl
                have hggen : (setG g2 m' topics (now + se)).gen = g2.gen := rfl
                clear hss2 d3 e3 e2 d6 d0 hbi hj6 hj0 hj2 hjf hjb hjr HP2 hF4 hk4 HG3 HR3 HM3 HF3 HK3 HTV2
                generalize setG g2 m' topics (now + se) = g3 at *
                have hl4 : L4.length ≤ 20 := by rw [← hg4.len, hglen]; exact HW2.out.len
                have HC := Lib.hid (rall_any hg4 (by omega))
                have HCL := Lib.hid (rclose_any wk F4 b g3 v4 L4 now hg4 (by omega) HN.out (by rw [hgreb]; exact ⟨by have := HW2.out.reb; omega, HW2.out.reb.2⟩) (by rw [hggen]; exact HW2.out.gen))
                have HG4 := Lib.hid hg4
                clear hg4 hglen hgreb hggen
                cases hal : g3.ones.all (·.joined) with
                | true =>
                  have HFIN : Hid (finG g3 now = closeG g3 now) := if_pos hal
                  rw [hal] at HC
                  clear hal
                  go_wp2_with fail
                  refine HC.out.mono ?_
                  rintro e wj ⟨rfl, rfl⟩
                  go_wp2_with fail
                  refine HCL.out.mono ?_
                  rintro e wx ⟨rfl, hq⟩
                  have HQ5 := Lib.hid (HP4.out _ _ hq)
                  clear hq
                  go_wp2
                  go_ret2
                  exact HJ.out _ (by rw [HFIN.out]; exact HQ5.out)
                | false =>
                  have HFIN : Hid (finG g3 now = g3) := if_neg (by rw [hal]; simp)
                  rw [hal] at HC
                  clear hal
                  go_wp2_with fail
                  refine HC.out.mono ?_
                  rintro e wj ⟨rfl, rfl⟩
                  have HQ5 := Lib.hid (HP4.out _ _ ⟨F4, ⟨v4, L4, HG4.out⟩, fun k e => .inl e, Keeps.refl _ _⟩)
                  go_wp2
                  go_ret2
                  exact HJ.out _ (by rw [HFIN.out]; exact HQ5.out)
end Go.Proofs.YtklhlffdpojkoaaGreat
