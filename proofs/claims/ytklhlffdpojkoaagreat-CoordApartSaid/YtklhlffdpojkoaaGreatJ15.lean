/-
  The reference's close.
-/
import Derived.Test.YtklhlffdpojkoaaGreatJ14
namespace Go.Proofs.YtklhlffdpojkoaaGreat
open Go.RowKit Go.Shelf Fx

/-- The row that close makes: of the first k members those that have joined. -/
structure CloseMid (w wr : World) (L : List OneV) (k : Nat) (nv : Value) (n : Nat) : Prop where
  len : n = ((L.take k).filter (·.joined)).length
  row : wr.ownsRow w.heap.size 111 5 nv n (((L.take k).filter (·.joined)).flatMap oneEnc)
  keep : K0 w wr
theorem CloseMid.start (w : World) (L : List OneV) : CloseMid w w L 0 (.slice none 0 0) 0 := ⟨rfl, World.ownsRow_nil _ _ _ _, Keeps.refl _ _⟩
theorem CloseMid.skip {w wr : World} {L : List OneV} {k : Nat} {nv : Value} {n : Nat} (h : CloseMid w wr L k nv n) (hk : k < L.length) (hj : L[k].joined = false) : CloseMid w wr L (k + 1) nv n := by
  have e : (L.take (k + 1)).filter (·.joined) = (L.take k).filter (·.joined) := by
    rw [List.take_succ_eq_append_getElem hk, List.filter_append, List.filter_cons_of_neg (by show ¬ L[k].joined = true; exact fun e => Bool.false_ne_true (hj.symm.trans e))]
    simp
  exact ⟨by rw [e]; exact h.len, by rw [e]; exact h.row, h.keep⟩
theorem CloseMid.take {w wr w4 : World} {L : List OneV} {k : Nat} {nv : Value} {n g1 cap1 : Nat} {o : Obj} {X : OneV} {xs : List Value} {tv pv : Value} (h : CloseMid w wr L k nv n) (hk : k < L.length) (hX : L[k] = X) (hjx : X.joined = true) (htv : X.tv = tv) (hpv : X.pv = pv) (hxs : ((L.take k).filter (·.joined)).flatMap oneEnc = xs)
    (hA : App1 (wr.alloc o) w.heap.size 111 5 nv n (xs ++ [.int .i64 X.member, tv, .int .i64 X.til, .bool true, pv]) g1 cap1 w4) :
    CloseMid w w4 L (k + 1) (.slice (some ⟨g1, 0, none⟩) (n + 1) cap1) (n + 1) := by
  subst hX hxs htv hpv
  have hj : L[k].joined = true := hjx
  have e : (L.take (k + 1)).filter (·.joined) = (L.take k).filter (·.joined) ++ [L[k]] := by
    rw [List.take_succ_eq_append_getElem hk, List.filter_append, List.filter_cons_of_pos (by show L[k].joined = true; exact hj)]
    simp
  refine ⟨by rw [e, List.length_append, ← h.len]; rfl, ?_, h.keep.grown (grown_alloc hA.grown) (fun j e2 hlt => absurd (h.row.lt j e2).1 (by omega))⟩
  rw [e, List.flatMap_append, List.flatMap_cons, List.flatMap_nil, List.append_nil]
  have e9 : oneEnc L[k] = [.int .i64 L[k].member, L[k].tv, .int .i64 L[k].til, .bool true, L[k].pv] := by unfold oneEnc; rw [hj]
  rw [e9]
  exact hA.own
/-- Behind the loop: the new row stored. -/
theorem RGrpAt.fil {w wr : World} {F : Nat → Prop} {b : Nat} {g : GroupC} {v nv : Value} {L : List OneV} {n : Nat} (h : RGrpAt w F b g v L) (hm : CloseMid w wr L L.length nv n) :
    RGrpAt (wr.setCell ⟨b, 6, none⟩ nv) (fun k => F k ∨ (w.heap.size ≤ k ∧ k < (wr.setCell ⟨b, 6, none⟩ nv).heap.size)) b (filG g fun o => !o.joined) nv (L.filter (·.joined)) := by
  have hb := block_lt h.blk
  have hk : Keeps (fun k => k = b) w (wr.setCell ⟨b, 6, none⟩ nv) := (hm.keep.mono (S1 := fun k => k = b) (fun _ _ e => e.elim)).setC 6 _ (fun _ => rfl)
  have hrow := hm.row
  have hlen := hm.len
  rw [List.take_length] at hrow hlen
  refine h.step hk (fun k e => .inl e) ?_ ?_ (fun k e => .inr (hrow.lt k e).1) ?_ (fun x hx => .inl ⟨x, (List.mem_filter.1 hx).1, rfl, rfl⟩) (fun x hx => .inl ⟨x, (List.mem_filter.1 hx).1, rfl, rfl⟩)
  · exact setCell_block ((hm.keep.block b hb (fun e => e)).trans h.blk) 6 _
  · rw [← hlen]
    exact own_base (own_keep ((Keeps.refl (fun k => k = b) wr).setC 6 _ (fun _ => rfl)) hrow (fun k e e2 => by have := (hrow.lt k e).1; omega)) (Nat.zero_le _)
  · show _ = (g.ones.filter fun o => !(!o.joined))
    rw [← h.ones, List.filter_map]
    congr 1
    apply List.filter_congr
    intro x _
    simp [OneV.core]
set_option maxRecDepth 100000 in
set_option maxHeartbeats 2000000 in
theorem rclose_any (w : World) (F : Nat → Prop) (b : Nat) (g : GroupC) (v : Value) (L : List OneV) (now : Int) (h : RGrpAt w F b g v L) (hl : L.length ≤ 1000) (hn : 0 ≤ now ∧ now ≤ 1099511627776) (hr : 0 ≤ g.rebalance ∧ g.rebalance ≤ 100000) (hgn : 0 ≤ g.gen ∧ g.gen ≤ 1152921504606846976) :
    Calls Tryz.prog 89 #[.pointer (some ⟨b, 0, none⟩), .int .i64 now] w fun e w' => e = .returned (.tuple #[]) ∧ RGrpPost w F b (closeG g now) w' := by
  have hb := block_lt h.blk
  have hx : w.cell? ⟨b, 6, none⟩ = some v := block_cell h.blk 6
  have HH := Lib.hid h
  have HFO := Lib.hid h.form
  have hvl : ∃ a c, v = .slice a L.length c := by
    rcases h.form with ⟨rfl, rfl⟩ | ⟨r, cap, rfl, _⟩
    · exact ⟨_, _, rfl⟩
    · exact ⟨_, _, rfl⟩
  obtain ⟨va, vc, rfl⟩ := hvl
  clear h
  go_enter Tryz.func89, Tryz.ntmps89
  go_wp2
  go_loopw [4, 5] (fun nv i wr => ∃ (k n : Nat) (na : Option Addr) (nc : Nat), i = .int .i64 k ∧ k ≤ L.length ∧ nv = .slice na n nc ∧ CloseMid w wr L k (.slice na n nc) n) (fun _ i _ => L.length - (intOf i).toNat)
  case atStart => exact ⟨0, 0, none, 0, rfl, by omega, rfl, CloseMid.start w L⟩
  case round =>
    obtain ⟨k, n, na, nc, rfl, hk, rfl, hmid⟩ := hrel
    have HM := Lib.hid hmid
    have hx2 := hmid.keep.cell' hx (fun e => e)
    have hb2 := Nat.lt_of_lt_of_le hb hmid.keep.size
    by_cases hlt : k < L.length
    · rcases HFO.out with ⟨e, _⟩ | ⟨r, cap, ev, hrb, hrl, hcap, hFr⟩
      · rw [e] at hlt; exact absurd hlt (Nat.not_lt_zero _)
      · cases ev
        have hcs := HH.out.cell rfl k hlt
        have c0 := hmid.keep.cell' hcs.1 (fun e => e)
        have c1 := hmid.keep.cell' hcs.2.1 (fun e => e)
        have c2 := hmid.keep.cell' hcs.2.2.1 (fun e => e)
        have c3 := hmid.keep.cell' hcs.2.2.2.1 (fun e => e)
        have c4 := hmid.keep.cell' hcs.2.2.2.2 (fun e => e)
        have hrl2 := Nat.lt_of_lt_of_le hrl hmid.keep.size
        have hrow := hmid.row
        have hsz := hmid.keep.size
        have hn20 : n ≤ 1000 := by
          have h1 := hmid.len
          have h2 := List.length_filter_le (fun x : OneV => x.joined) (L.take k)
          have h3 : (L.take k).length ≤ L.length := by rw [List.length_take]; omega
          omega
        generalize hX : L[k] = X at c0 c1 c2 c3 c4
        have HX := Lib.hid hX
        have i0 : (0 : Int) ≤ k := by omega
        have i1 : (k : Int) < L.length := by omega
        generalize hxs : ((L.take k).filter (·.joined)).flatMap oneEnc = xs at hrow
        have HXS := Lib.hid hxs
        have hout := HH.out.out _ (List.getElem_mem hlt)
        rw [hX] at hout
        obtain ⟨⟨ta, tc, htv, _⟩, ⟨pa, pc, hpv, _⟩⟩ := hout
        rw [htv] at c1
        rw [hpv] at c4
        have HTV := Lib.hid htv
        have HPV := Lib.hid hpv
        have HLT := Lib.hid hlt
        clear hmid hcs hX hxs htv hpv
        cases hj : X.joined with
        | false =>
          rw [hj] at c3
          have HJ := Lib.hid hj
          clear hj
          go_wp2
          go_roundw
          case rel => exact ⟨k + 1, n, na, nc, by go_num, HLT.out, rfl, HM.out.skip HLT.out ((congrArg OneV.joined HX.out).trans HJ.out)⟩
          case measure => have := HLT.out; simp [intOf]; omega
        | true =>
          rw [hj] at c3
          have HJ := Lib.hid hj
          clear hj
          go_wp2_with (at_builtin; refine wpList_app1 rfl rfl Tryz.underlying79 infoROne rfl (by decide) rfl (hrow.alloc _) rfl (heap_new _ _ _ rfl) rfl rfl ⟨by omega, by decide⟩ (by simp; omega) ?_; intro g1 cap1 w4 hA)
          have hq := HM.out.take HLT.out HX.out HJ.out HTV.out HPV.out HXS.out hA
          have HQ := Lib.hid hq
          clear hA hq
          go_roundw
          case rel => exact ⟨k + 1, n + 1, _, _, by go_num, HLT.out, rfl, HQ.out⟩
          case measure => have := HLT.out; simp [intOf]; omega
    · obtain rfl : k = L.length := by omega
      have hgf := HH.out.fil hmid
      have f6 := block_free ((hmid.keep.block b hb (fun e => e)).trans HH.out.blk) 6
      have HGF := Lib.hid hgf
      have HKB : Hid (Keeps (fun k => k = b) w (wr.setCell ⟨b, 6, none⟩ (.slice na n nc))) := (hmid.keep.mono (S1 := fun k => k = b) (fun _ _ e => e.elim)).setC 6 _ (fun _ => rfl)
      have HE := Lib.hid (rempty_any hgf)
      have hfl := hgf.len
      have HG9 : Hid ((filG g fun o => !o.joined).ones.length = (L.filter (·.joined)).length) := hfl
      clear hgf hmid hlt hfl
      by_cases h0 : (L.filter (·.joined)).length = 0
      · have he : emptyG (filG g fun o => !o.joined) = closeG g now := by unfold emptyG closeG; rw [if_pos (by rw [HG9.out]; exact h0), if_pos (by rw [HG9.out]; exact h0)]
        have hd : decide ((L.filter (·.joined)).length = 0) = true := by simpa using h0
        have HE2 := HE.out
        rw [he, hd] at HE2
        have HE3 := Lib.hid HE2
        clear HE2 HE he hd h0
        go_wp2_with fail
        refine HE3.out.mono ?_
        rintro e w3 ⟨rfl, hg3, hk3⟩
        have HG3 := Lib.hid hg3
        have HK3 := Lib.hid (HKB.out.trans hk3 (fun _ _ e => e))
        clear hg3 hk3
        go_wp2
        (try simp only [Exit.inBlock, Exit.then])
        refine bodyPost_ret (results_none rfl _ _ _) rfl ?_
        exact ⟨rfl, _, ⟨_, _, HG3.out⟩, fun k e => e.elim .inl (fun e => .inr e.1), HK3.out.mono fun k _ e => by subst e; exact HH.out.fb⟩
      · have he : emptyG (filG g fun o => !o.joined) = (filG g fun o => !o.joined) := by unfold emptyG; rw [if_neg (by rw [HG9.out]; exact h0)]
        have hce : closeG g now = enterG { filG g fun o => !o.joined with gen := g.gen + 1 } 2 (now + g.rebalance) := by unfold closeG; rw [if_neg (by rw [HG9.out]; exact h0)]
        have hd : decide ((L.filter (·.joined)).length = 0) = false := by simpa using h0
        have HE2 := HE.out
        rw [he, hd] at HE2
        have HE3 := Lib.hid HE2
        have HCE := Lib.hid hce
        clear HE2 HE he hd h0 hce
        go_wp2_with fail
        refine HE3.out.mono ?_
        rintro e w3 ⟨rfl, hg3, hk3⟩
        have hb3 := block_lt hg3.blk
        have d1 : w3.cell? ⟨b, 1, none⟩ = some (.int .i64 g.rebalance) := block_cell hg3.blk 1
        have d2 : w3.cell? ⟨b, 2, none⟩ = some (.int .i64 g.phase) := block_cell hg3.blk 2
        have d3 : w3.cell? ⟨b, 3, none⟩ = some (.int .i64 g.gen) := block_cell hg3.blk 3
        have d5 : w3.cell? ⟨b, 5, none⟩ = some (.int .i64 g.til) := block_cell hg3.blk 5
        have e2 := block_free hg3.blk 2
        have e3 := block_free hg3.blk 3
        have e5 := block_free hg3.blk 5
        have HG4 := Lib.hid (hg3.head (g' := enterG { filG g fun o => !o.joined with gen := g.gen + 1 } 2 (now + g.rebalance)) ((((Keeps.refl (fun k => k = b) w3).setC 3 (.int .i64 (g.gen + 1)) (fun _ => rfl)).setC 2 (.int .i64 2) (fun _ => rfl)).setC 5 (.int .i64 (now + g.rebalance)) (fun _ => rfl)) (setCell_block (setCell_block (setCell_block hg3.blk 3 _) 2 _) 5 _) rfl)
        have HK4 := Lib.hid (HKB.out.trans ((((Keeps.refl (fun k => k = b) w3).setC 3 (.int .i64 (g.gen + 1)) (fun _ => rfl)).setC 2 (.int .i64 2) (fun _ => rfl)).setC 5 (.int .i64 (now + g.rebalance)) (fun _ => rfl) |> fun h => hk3.trans h (fun _ _ e => e)) (fun _ _ e => e))
        clear hg3 hk3
        rw [← HCE.out] at HG4
        generalize g.rebalance = rb at d1 hr HG4 HK4
        generalize g.gen = gn at d3 hgn HG4 HK4
        go_wp2
        go_end0
        exact ⟨rfl, _, ⟨_, _, HG4.out⟩, fun k e => e.elim .inl (fun e => .inr e.1), HK4.out.mono fun k _ e => by subst e; exact HH.out.fb⟩
end Go.Proofs.YtklhlffdpojkoaaGreat

/-
  The reference's drop, went, Knows.
-/
namespace Go.Proofs.YtklhlffdpojkoaaGreat
open Go.RowKit Go.Shelf Fx

theorem RGrpAt.cells1 {w : World} {F : Nat → Prop} {b : Nat} {g : GroupC} {v : Value} {L : List OneV} (h : RGrpAt w F b g v L) : ∀ x ∈ L, ∀ u ∈ oneEnc x, u.oneCell' = true := fun x hx u hu => by
  obtain ⟨⟨ta, tc, htv, _⟩, ⟨pa, pc, hpv, _⟩⟩ := h.out x hx
  simp only [oneEnc, List.mem_cons, List.not_mem_nil, or_false] at hu
  rcases hu with rfl | rfl | rfl | rfl | rfl
  · rfl
  · rw [htv]; rfl
  · rfl
  · rfl
  · rw [hpv]; rfl
/-- A new row of some of its members, stored. -/
theorem RGrpAt.newrow {w wr : World} {F : Nat → Prop} {b : Nat} {g : GroupC} {v nv : Value} {L L' : List OneV} (h : RGrpAt w F b g v L) (hk0 : K0 w wr) (hrow : wr.ownsRow w.heap.size 111 5 nv L'.length (L'.flatMap oneEnc)) (hsub : ∀ x ∈ L', x ∈ L) {os : List OneC} (hones : L'.map OneV.core = os) :
    RGrpAt (wr.setCell ⟨b, 6, none⟩ nv) (fun k => F k ∨ (w.heap.size ≤ k ∧ k < (wr.setCell ⟨b, 6, none⟩ nv).heap.size)) b { g with ones := os } nv L' := by
  have hb := block_lt h.blk
  have hk : Keeps (fun k => k = b) w (wr.setCell ⟨b, 6, none⟩ nv) := (hk0.mono (S1 := fun k => k = b) (fun _ _ e => e.elim)).setC 6 _ (fun _ => rfl)
  refine h.step hk (fun k e => .inl e) ?_ ?_ (fun k e => .inr (hrow.lt k e).1) hones (fun x hx => .inl ⟨x, hsub x hx, rfl, rfl⟩) (fun x hx => .inl ⟨x, hsub x hx, rfl, rfl⟩)
  · exact setCell_block ((hk0.block b hb (fun e => e)).trans h.blk) 6 _
  · exact own_base (own_keep ((Keeps.refl (fun k => k = b) wr).setC 6 _ (fun _ => rfl)) hrow (fun k e e2 => by have := (hrow.lt k e).1; omega)) (Nat.zero_le _)
theorem own_slice {w : World} {base : Nat} {e : TypeId} {size : Nat} {v : Value} {n : Nat} {xs : List Value} (h : w.ownsRow base e size v n xs) : ∃ a c, v = .slice a n c := by
  rcases h.2 with ⟨rfl, rfl⟩ | ⟨g, cap, cur, rfl, _⟩
  · exact ⟨_, _, rfl⟩
  · exact ⟨_, _, rfl⟩
def dropAt (g : GroupC) (i : Nat) : GroupC := { g with ones := g.ones.eraseIdx i }
theorem flatN_drop {α : Type} (enc : α → List Value) (n : Nat) (hn : ∀ x, (enc x).length = n) (L : List α) (i : Nat) : (L.drop i).flatMap enc = (L.flatMap enc).drop (i * n) := by
  induction L generalizing i with
  | nil => simp
  | cons x L ih =>
    cases i with
    | zero => simp
    | succ i =>
      rw [List.drop_succ_cons, ih, List.flatMap_cons, List.drop_append, hn]
      have e1 : (enc x).drop ((i + 1) * n) = [] := List.drop_eq_nil_of_le (by rw [hn, Nat.add_mul]; omega)
      rw [e1, List.nil_append]
      congr 1
      rw [Nat.add_mul]; omega
theorem flatN_take {α : Type} (enc : α → List Value) (n : Nat) (hn : ∀ x, (enc x).length = n) (L : List α) (i : Nat) : (L.take i).flatMap enc = (L.flatMap enc).take (i * n) := by
  induction L generalizing i with
  | nil => simp
  | cons x L ih =>
    cases i with
    | zero => simp
    | succ i =>
      rw [List.take_succ_cons, List.flatMap_cons, ih, List.flatMap_cons, List.take_append, hn]
      have e1 : (enc x).take ((i + 1) * n) = enc x := List.take_of_length_le (by rw [hn, Nat.add_mul]; omega)
      rw [e1]
      congr 2
      rw [Nat.add_mul]; omega
theorem RGrpAt.dropped {w w2 : World} {F : Nat → Prop} {b : Nat} {g : GroupC} {v : Value} {L : List OneV} {i n vc : Nat} {va : Option Addr} (h : RGrpAt w F b g v L) (hi : i < L.length) (hk : K0 w w2) (hn : n = L.length - 1)
    (hrow : w2.ownsRow w.heap.size 111 5 (.slice va n vc) n ((L.take i).flatMap oneEnc ++ (L.drop (i + 1)).flatMap oneEnc)) : RGrpPost w F b (dropAt g i) (w2.setCell ⟨b, 6, none⟩ (.slice va n vc)) := by
  have hle : (L.eraseIdx i).length = n := by rw [List.length_eraseIdx, if_pos hi, hn]
  have hg := h.newrow (L' := L.eraseIdx i) (os := g.ones.eraseIdx i) hk (by
    rw [hle, List.eraseIdx_eq_take_drop_succ, List.flatMap_append]
    exact hrow) (fun x hx => List.mem_of_mem_eraseIdx hx) (by rw [← h.ones, List.eraseIdx_eq_take_drop_succ, List.eraseIdx_eq_take_drop_succ, List.map_append, List.map_take, List.map_drop])
  exact ⟨_, ⟨_, _, hg⟩, fun k e => e.elim .inl (fun e => .inr e.1), (hk.mono (S1 := F) (fun _ _ e => e.elim)).setC 6 _ (fun _ => h.fb)⟩
set_option maxRecDepth 100000 in
set_option maxHeartbeats 2000000 in
theorem rdrop_any (w : World) (F : Nat → Prop) (b : Nat) (g : GroupC) (v : Value) (L : List OneV) (i : Nat) (hi : i < L.length) (h : RGrpAt w F b g v L) (hl : L.length ≤ 1000) :
    Calls Tryz.prog 92 #[.pointer (some ⟨b, 0, none⟩), .int .i64 i] w fun e w' => e = .returned (.tuple #[]) ∧ RGrpPost w F b (dropAt g i) w' := by
  have hb := block_lt h.blk
  have HH := Lib.hid h
  have hx : w.cell? ⟨b, 6, none⟩ = some v := block_cell h.blk 6
  have f6 := block_free h.blk 6
  rcases h.form with ⟨rfl, rfl⟩ | ⟨r, cap, rfl, hrb, hrl, hcap, hFr⟩
  · exact absurd hi (Nat.not_lt_zero _)
  · have hcm : cap ≤ 9223372036854775807 := by
      rcases h.row.2 with ⟨e, _⟩ | ⟨g1, cap1, cur, e, _, _, _, hc, _⟩
      · cases e
      · cases e; unfold maxLen at hc; omega
    have hcells : ∀ j u, (L.flatMap oneEnc)[j]? = some u → w.cell? ⟨r, j, none⟩ = some u := fun j u hu => by
      have hj : j < (L.flatMap oneEnc).length := (List.getElem?_eq_some_iff.1 hu).1
      rw [h.row.cellAt j (by rw [flat_len oneEnc 5 oneEnc_len] at hj; exact hj)]
      exact hu
    have hl1 : ((L.take i).flatMap oneEnc).length = i * 5 := by rw [flat_len oneEnc 5 oneEnc_len, List.length_take]; congr 1; omega
    have hl2 : ((L.drop (i + 1)).flatMap oneEnc).length = (L.length - (i + 1)) * 5 := by rw [flat_len oneEnc 5 oneEnc_len, List.length_drop]
    have hn1 : ∀ j u, ((L.take i).flatMap oneEnc)[j]? = some u → w.cell? ((⟨r, 0, none⟩ : Addr).add j) = some u := fun j u hu => by
      rw [flatN_take oneEnc 5 oneEnc_len, List.getElem?_take] at hu
      split at hu
      · rw [add_at, Nat.zero_add]; exact hcells j u hu
      · cases hu
    have hc1 : ∀ u ∈ (L.take i).flatMap oneEnc, u.oneCell' = true := fun u hu => by
      obtain ⟨x, hx, hu⟩ := List.mem_flatMap.1 hu
      exact h.cells1 x (List.mem_of_mem_take hx) u hu
    have hc2 : ∀ u ∈ (L.drop (i + 1)).flatMap oneEnc, u.oneCell' = true := fun u hu => by
      obtain ⟨x, hx, hu⟩ := List.mem_flatMap.1 hu
      exact h.cells1 x (List.mem_of_mem_drop hx) u hu
    have HA1 : Hid (∀ w1, w.grownBy w1 none → w1.cell? ⟨b, 6, none⟩ = some (.slice (some ⟨r, 0, none⟩) L.length cap) ∧ b < w1.heap.size ∧ w1.frozen? ⟨b, 6, none⟩ = false ∧ w.heap.size ≤ w1.heap.size ∧ ∀ j u, ((L.drop (i + 1)).flatMap oneEnc)[j]? = some u → w1.cell? ((⟨r, (i + 1) * 5, none⟩ : Addr).add j) = some u) := fun w1 hg => by
      have hk : K0 w w1 := (Keeps.refl (fun _ => False) w).grown hg (fun k e => by cases e)
      have hblk := (hk.block b hb (fun e => e)).trans HH.out.blk
      refine ⟨block_cell hblk 6, block_lt hblk, block_free hblk 6, hk.size, fun j u hu => ?_⟩
      rw [flatN_drop oneEnc 5 oneEnc_len, List.getElem?_drop] at hu
      rw [add_at]
      exact hk.cell' (hcells _ u hu) (fun e => e)
    have HB2 : Hid (∀ (v1 : Value) (w1 w2 : World) (xs1 : List Value), w.grownBy w1 none → w1.ownsRow w.heap.size 111 5 v1 i xs1 → w1.grownBy w2 v1.ownBlock → K0 w w2 ∧ b < w2.heap.size ∧ w2.frozen? ⟨b, 6, none⟩ = false ∧ w2.cell? ⟨b, 6, none⟩ = some (.slice (some ⟨r, 0, none⟩) L.length cap)) := fun v1 w1 w2 xs1 hg hv hg2 => by
      have hk : K0 w w1 := (Keeps.refl (fun _ => False) w).grown hg (fun k e => by cases e)
      have hk2 : K0 w w2 := hk.grown hg2 (fun k e hlt => absurd (hv.lt k e).1 (by omega))
      have hblk := (hk2.block b hb (fun e => e)).trans HH.out.blk
      exact ⟨hk2, block_lt hblk, block_free hblk 6, block_cell hblk 6⟩
    have hown0 : w.ownsRow w.heap.size 111 5 (.slice none 0 0) 0 [] := World.ownsRow_nil _ _ _ _
    have i0 : (0 : Int) ≤ i := by omega
    have i1 : (i : Int) ≤ cap := by omega
    have i2 : (i : Int) < L.length := by omega
    have i3 : (i : Int) + 1 ≤ L.length := by omega
    have i4 : (L.length : Int) ≤ cap := by omega
    clear h hcells
    generalize hx1 : (L.take i).flatMap oneEnc = news1 at hl1 hn1 hc1
    generalize hx2 : (L.drop (i + 1)).flatMap oneEnc = news2 at hl2 hc2 HA1
    have HX1 := Lib.hid hx1
    have HX2 := Lib.hid hx2
    have HI := Lib.hid hi
    clear hx1 hx2
    by_cases hce : cap = i + 1
    · subst hce
      have hnil : ∀ w1 : World, ∀ j u, news2[j]? = some u → w1.cell? ((⟨r, 0, none⟩ : Addr).add j) = some u := fun w1 j u hu => by
        have h9 := (List.getElem?_eq_some_iff.1 hu).1
        omega
      have HNIL := Lib.hid hnil
      have hl20 : news2.length = 0 * 5 := by omega
      clear hnil
      go_enter Tryz.func92, Tryz.ntmps92
      go_wp2_with (at_builtin; first | (refine wpList_appN rfl rfl Tryz.underlying79 infoROne rfl (by decide) rfl hown0 rfl hl1 hn1 hc1 ⟨by omega, by decide⟩ (Nat.le_refl _) ?_; intro v1 w1 hv1 hg1; simp only [Nat.zero_add, List.nil_append] at hv1; obtain ⟨va1, vc1, rfl⟩ := own_slice hv1; obtain ⟨a1, a2, a3, a4, a5⟩ := HA1.out w1 hg1) | (refine wpList_appN rfl rfl Tryz.underlying79 infoROne rfl (by decide) rfl hv1 rfl hl2 (HNIL.out _) hc2 ⟨by omega, by decide⟩ a4 ?_; intro v2 w2 hv2 hg2; obtain ⟨va2, vc2, rfl⟩ := own_slice hv2; have B2 := HB2.out _ _ _ _ hg1 hv1 hg2; obtain ⟨b1, b2, b3, b4⟩ := B2; have HB := Lib.hid b1; have HV2 := Lib.hid hv2; clear b1 hv1 hg1 hg2 hv2 a1 a2 a3 a4 a5) | (refine wpList_appN rfl rfl Tryz.underlying79 infoROne rfl (by decide) rfl hv1 rfl hl20 (HNIL.out _) hc2 ⟨by omega, by decide⟩ a4 ?_; intro v2 w2 hv2 hg2; obtain ⟨va2, vc2, rfl⟩ := own_slice hv2; have B2 := HB2.out _ _ _ _ hg1 hv1 hg2; obtain ⟨b1, b2, b3, b4⟩ := B2; have HB := Lib.hid b1; have HV2 := Lib.hid hv2; clear b1 hv1 hg1 hg2 hv2 a1 a2 a3 a4 a5))
      go_end0
      exact ⟨rfl, HH.out.dropped HI.out HB.out (by omega) (by rw [HX1.out, HX2.out]; exact HV2.out)⟩
    · go_enter Tryz.func92, Tryz.ntmps92
      go_wp2_with (at_builtin; first | (refine wpList_appN rfl rfl Tryz.underlying79 infoROne rfl (by decide) rfl hown0 rfl hl1 hn1 hc1 ⟨by omega, by decide⟩ (Nat.le_refl _) ?_; intro v1 w1 hv1 hg1; simp only [Nat.zero_add, List.nil_append] at hv1; obtain ⟨va1, vc1, rfl⟩ := own_slice hv1; obtain ⟨a1, a2, a3, a4, a5⟩ := HA1.out w1 hg1) | (refine wpList_appN rfl rfl Tryz.underlying79 infoROne rfl (by decide) rfl hv1 rfl hl2 a5 hc2 ⟨by omega, by decide⟩ a4 ?_; intro v2 w2 hv2 hg2; obtain ⟨va2, vc2, rfl⟩ := own_slice hv2; have B2 := HB2.out _ _ _ _ hg1 hv1 hg2; obtain ⟨b1, b2, b3, b4⟩ := B2; have HB := Lib.hid b1; have HV2 := Lib.hid hv2; clear b1 hv1 hg1 hg2 hv2 a1 a2 a3 a4 a5))
      go_end0
      exact ⟨rfl, HH.out.dropped HI.out HB.out (by omega) (by rw [HX1.out, HX2.out]; exact HV2.out)⟩
def wentG (g : GroupC) (now : Int) : GroupC :=
  if g.ones.length = 0 then enterG g 0 0 else if ¬ g.phase = 1 then anewG g now else if g.ones.all (·.joined) then closeG g now else g
theorem emptyG_no {g : GroupC} (h : ¬ g.ones.length = 0) : emptyG g = g := if_neg h
theorem emptyG_yes {g : GroupC} (h : g.ones.length = 0) : emptyG g = enterG g 0 0 := if_pos h
/-- The bounds that keep sums within what an int holds. -/
structure RBnd (g : GroupC) (now : Int) : Prop where
  t : 0 ≤ now ∧ now ≤ 1099511627776
  r : 0 ≤ g.rebalance ∧ g.rebalance ≤ 100000
  g : 0 ≤ g.gen ∧ g.gen ≤ 1152921504606846976
set_option maxRecDepth 100000 in
set_option maxHeartbeats 2000000 in
theorem rwent_any (w : World) (F : Nat → Prop) (b : Nat) (g : GroupC) (v : Value) (L : List OneV) (now : Int) (h : RGrpAt w F b g v L) (hl : L.length ≤ 1000) (bd : RBnd g now) :
    Calls Tryz.prog 93 #[.pointer (some ⟨b, 0, none⟩), .int .i64 now] w fun e w' => e = .returned (.tuple #[]) ∧ RGrpPost w F b (wentG g now) w' := by
  have hlen := h.len
  have HE := Lib.hid (rempty_any h)
  have HF := Lib.hid h.fb
  have BD := Lib.hid bd
  by_cases h0 : L.length = 0
  · have hd : decide (L.length = 0) = true := by simpa using h0
    have HE2 := HE.out
    rw [hd, emptyG_yes (by omega)] at HE2
    have HW : Hid (wentG g now = enterG g 0 0) := if_pos (by omega)
    have HE3 := Lib.hid HE2
    clear HE HE2 h hlen hd h0
    go_enter Tryz.func93, Tryz.ntmps93
    go_wp2_with fail
    refine HE3.out.mono ?_
    rintro e w1 ⟨rfl, hg, hk⟩
    have HG := Lib.hid hg
    have HK := Lib.hid hk
    clear hg hk
    go_wp2
    (try simp only [Exit.inBlock, Exit.then])
    refine bodyPost_ret (results_none rfl _ _ _) rfl ?_
    rw [HW.out]
    exact ⟨rfl, F, ⟨_, _, HG.out⟩, fun k e => .inl e, HK.out.mono fun k _ e => by subst e; exact HF.out⟩
  · have hd : decide (L.length = 0) = false := by simpa using h0
    have HE2 := HE.out
    rw [hd, emptyG_no (by omega)] at HE2
    have HN : Hid (¬ g.ones.length = 0) := by show ¬ _; omega
    have HE3 := Lib.hid HE2
    clear HE HE2 h hlen hd h0
    by_cases hp : g.phase = 1
    · have HP := Lib.hid hp
      clear hp
      go_enter Tryz.func93, Tryz.ntmps93
      go_wp2_with fail
      refine HE3.out.mono ?_
      rintro e w1 ⟨rfl, hg, hk⟩
      have c2 : w1.cell? ⟨b, 2, none⟩ = some (.int .i64 1) := by rw [← HP.out]; exact block_cell hg.blk 2
      have hb := block_lt hg.blk
      have HG := Lib.hid hg
      have HK : Hid (Keeps F w w1) := hk.mono fun k _ e => by subst e; exact HF.out
      clear hg hk
      go_wp2_with fail
      refine (rall_any HG.out hl).mono ?_
      rintro e w2 ⟨rfl, rfl⟩
      cases ha : g.ones.all (·.joined) with
      | true =>
        have HW : Hid (wentG g now = closeG g now) := by show _ = _; unfold wentG; rw [if_neg HN.out, if_neg (by simpa using HP.out), if_pos ha]
        clear ha
        go_wp2_with fail
        refine (rclose_any _ F b g v L now HG.out hl BD.out.t BD.out.r BD.out.g).mono ?_
        rintro e w3 ⟨rfl, hq⟩
        have HQ : Hid (RGrpPost w F b (wentG g now) w3) := by show RGrpPost _ _ _ _ _; rw [HW.out]; exact hq.trans (fun k e => .inl e) HK.out
        clear hq
        go_wp2
        go_end0
        exact ⟨rfl, HQ.out⟩
      | false =>
        have HW : Hid (wentG g now = g) := by show _ = _; unfold wentG; rw [if_neg HN.out, if_neg (by simpa using HP.out), if_neg (by rw [ha]; simp)]
        clear ha
        go_wp2
        go_end0
        rw [HW.out]
        exact ⟨rfl, F, ⟨_, _, HG.out⟩, fun k e => .inl e, HK.out⟩
    · have HW : Hid (wentG g now = anewG g now) := by show _ = _; unfold wentG; rw [if_neg HN.out, if_pos hp]
      go_enter Tryz.func93, Tryz.ntmps93
      go_wp2_with fail
      refine HE3.out.mono ?_
      rintro e w1 ⟨rfl, hg, hk⟩
      have c2 : w1.cell? ⟨b, 2, none⟩ = some (.int .i64 g.phase) := block_cell hg.blk 2
      have hb := block_lt hg.blk
      have HG := Lib.hid hg
      have HK : Hid (Keeps F w w1) := hk.mono fun k _ e => by subst e; exact HF.out
      have HRG := Lib.hid (ranew_any w1 F b g v L now hg hl BD.out.t BD.out.r)
      generalize g.phase = ph at c2 hp
      clear hg hk
      go_wp2_with fail
      refine HRG.out.mono ?_
      rintro e w3 ⟨rfl, hq⟩
      have HQ : Hid (RGrpPost w F b (wentG g now) w3) := by show RGrpPost _ _ _ _ _; rw [HW.out]; exact hq.trans (fun k e => .inl e) HK.out
      clear hq
      go_wp2
      go_end0
      exact ⟨rfl, HQ.out⟩
theorem RFound.has {w : World} {F : Nat → Prop} {b : Nat} {g : GroupC} {v : Value} {L : List OneV} (h : RGrpAt w F b g v L) {m x : Int} (hf : RFound L m x) : (hasM g m = true ∧ ∃ i : Nat, ∃ hi : i < L.length, x = i ∧ L[i].member = m) ∨ (hasM g m = false ∧ x = -1) := by
  unfold hasM
  rw [← h.ones, List.any_map]
  rcases hf with ⟨i, hi, rfl, e⟩ | ⟨rfl, hn⟩
  · refine .inl ⟨?_, i, hi, rfl, e⟩
    rw [List.any_eq_true]
    exact ⟨L[i], List.getElem_mem hi, by simp [OneV.core, e]⟩
  · refine .inr ⟨?_, rfl⟩
    rw [List.any_eq_false]
    intro x hx
    obtain ⟨i, hi, rfl⟩ := List.mem_iff_getElem.1 hx
    have := hn i hi
    simp [OneV.core, this]
set_option maxRecDepth 100000 in
set_option maxHeartbeats 2000000 in
theorem rknows_any (w : World) (F : Nat → Prop) (b : Nat) (g : GroupC) (v : Value) (L : List OneV) (m gn : Int) (h : RGrpAt w F b g v L) (hl : L.length ≤ 1000) :
    Calls Tryz.prog 55 #[.pointer (some ⟨b, 0, none⟩), .int .i64 m, .int .i64 gn] w fun e w' => e = .returned (.int .i64 (knowsE g m gn)) ∧ w' = w := by
  have HFI := Lib.hid (rfind_any m h hl)
  have HH := Lib.hid h
  have hb := block_lt h.blk
  have c2 : w.cell? ⟨b, 2, none⟩ = some (.int .i64 g.phase) := block_cell h.blk 2
  have c3 : w.cell? ⟨b, 3, none⟩ = some (.int .i64 g.gen) := block_cell h.blk 3
  clear h
  go_enter Tryz.func55, Tryz.ntmps55
  go_wp2_with fail
  refine HFI.out.mono ?_
  rintro e w1 ⟨x, rfl, rfl, hf⟩
  rcases hf.has HH.out with ⟨hm, i, hi, rfl, _⟩ | ⟨hm, rfl⟩
  · have i0 : (0 : Int) ≤ i := by omega
    have HM := Lib.hid hm
    clear hm hf
    by_cases hg : gn = g.gen
    · have HGN := Lib.hid hg
      by_cases hp : g.phase = 1
      · have HKN : Hid (knowsE g m gn = 13) := by show _ = _; unfold knowsE knownE; rw [if_pos HM.out, if_pos HGN.out, if_pos rfl, if_pos hp]
        generalize g.phase = ph at c2 hp
        generalize g.gen = gg at c3 hg
        go_wp2
        go_ret
        rw [HKN.out]
        exact ⟨rfl, rfl⟩
      · have HKN : Hid (knowsE g m gn = 0) := by show _ = _; unfold knowsE knownE; rw [if_pos HM.out, if_pos HGN.out, if_pos rfl, if_neg hp]
        generalize g.phase = ph at c2 hp
        generalize g.gen = gg at c3 hg
        go_wp2
        go_ret
        rw [HKN.out]
        exact ⟨rfl, rfl⟩
    · have HKN : Hid (knowsE g m gn = 10) := by show _ = _; unfold knowsE knownE; rw [if_pos HM.out, if_neg hg]; rfl
      generalize g.gen = gg at c3 hg
      go_wp2
      go_ret
      rw [HKN.out]
      exact ⟨rfl, rfl⟩
  · have HKN : Hid (knowsE g m gn = 11) := by show _ = _; unfold knowsE knownE; simp [hm]
    clear hm hf
    go_wp2
    go_ret
    rw [HKN.out]
    exact ⟨rfl, rfl⟩
end Go.Proofs.YtklhlffdpojkoaaGreat
