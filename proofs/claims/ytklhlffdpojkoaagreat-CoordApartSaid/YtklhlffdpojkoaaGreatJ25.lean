/-
  The document's coordinator: Join.
-/
import Derived.Test.YtklhlffdpojkoaaGreatJ24
namespace Go.Proofs.YtklhlffdpojkoaaGreat
open Go.RowKit Go.Shelf Fx

theorem infoNamed : (Tryz.prog.info? 88).map (fun i => (i.zero, i.size, i.bytes)) = some (some (.agg #[.string ⟨#[]⟩, .pointer none]), 2, 24) := by kernel_rfl
theorem results_tmp4 {fn : Func} {t u v x : Tmp} (h : fn.results = #[.tmp t, .tmp u, .tmp v, .tmp x]) (tmps : Array Value) (P : Program) (w : World) :
    (results fn tmps).run P w = .ok (.tuple #[tmps.getD t undef, tmps.getD u undef, tmps.getD v undef, tmps.getD x undef]) w := by
  simp [results, h]
/-- Where a name has its place. -/
def insAt (gs : List (ByteArray × GroupC)) (s : ByteArray) : Nat := (gs.takeWhile fun p => sltB p.1 s).length
def rcput (gs : List (ByteArray × GroupC)) (s : ByteArray) (g : GroupC) : List (ByteArray × GroupC) := if (aget gs s).isSome then aput gs s g else gs.take (insAt gs s) ++ (s, g) :: gs.drop (insAt gs s)
def rcjoinC (C : CoordC) (s : ByteArray) (m : Int) (topics : List ByteArray) (now : Int) : CoordC :=
  if cjoinE C s m topics now = 0 then ⟨C.s, C.r, rcput C.gs s (cjoinG C s m topics now), C.off⟩ else C
theorem takeWhile_at {α : Type} (p : α → Bool) : ∀ (l : List α) (k : Nat), k ≤ l.length → (∀ j (hj : j < l.length), j < k → p l[j] = true) → (∀ hk : k < l.length, p l[k] = false) → (l.takeWhile p).length = k
  | [], k, h, _, _ => by simp at h; simp [h]
  | x :: l, 0, _, _, h => by
    have := h (Nat.succ_pos _)
    simp only [List.getElem_cons_zero] at this
    simp [this]
  | x :: l, k + 1, h, h1, h2 => by
    have hx := h1 0 (Nat.succ_pos _) (Nat.succ_pos _)
    simp only [List.getElem_cons_zero] at hx
    have := takeWhile_at p l k (by simpa using h) (fun j hj hjk => by have := h1 (j + 1) (by simpa using hj) (by omega); simpa using this) (fun hk => by have := h2 (by simpa using hk); simpa using this)
    simp [hx, this]
def RCJoinP (w : World) (F : Nat → Prop) (cb : Nat) (C : CoordC) (s : ByteArray) (m : Int) (topics : List ByteArray) (now : Int) (e : Ending) (w' : World) : Prop :=
  e = .returned (.tuple #[.int .i64 (joinR C s m topics now).1, .int .i64 (joinR C s m topics now).2.1, .int .i64 (joinR C s m topics now).2.2, .int .i64 (cjoinE C s m topics now)]) ∧ RCpost w F cb (rcjoinC C s m topics now) w'
theorem RCpost.after {w w1 w2 : World} {F : Nat → Prop} {cb : Nat} {C' : CoordC} (h : RCpost w F cb C' w1) (hk : K0 w1 w2) : RCpost w F cb C' w2 := by
  obtain ⟨F', h1, h2, h3⟩ := h
  exact ⟨F', h1.keep hk (fun _ _ e => e), h2, h3.trans hk (fun _ _ e => e.elim)⟩
section
variable {w w' : World} {F : Nat → Prop} {cb : Nat} {C : CoordC} {Y : RLay} {v : Value}
theorem RCJoinP.err {s : ByteArray} {m : Int} {topics : List ByteArray} {now x : Int} (h : cjoinE C s m topics now = x) (hx : ¬ x = 0) (hq : RCpost w F cb C w') : RCJoinP w F cb C s m topics now (.returned (.tuple #[.int .i64 0, .int .i64 0, .int .i64 0, .int .i64 x])) w' := by
  unfold RCJoinP joinR rcjoinC
  rw [h, if_neg hx, if_neg hx]
  exact ⟨rfl, hq⟩
theorem RCJoinP.fine {s : ByteArray} {m : Int} {topics : List ByteArray} {now : Int} {g g' : GroupC} (hb : cbase C s = g) (hg : joinG g m topics now = g') (h : cjoinE C s m topics now = 0) (hq : RCpost w F cb ⟨C.s, C.r, rcput C.gs s g', C.off⟩ w') :
    RCJoinP w F cb C s m topics now (.returned (.tuple #[.int .i64 (nextM g m), .int .i64 g'.gen, .int .i64 (firstM g'.ones), .int .i64 0])) w' := by
  unfold RCJoinP joinR rcjoinC cjoinG
  rw [h, if_pos rfl, if_pos rfl, hb, hg]
  exact ⟨rfl, hq⟩
/-- What Join reads of the group in the end. -/
structure HeadG (w : World) (b : Nat) (g : GroupC) (r n c : Nat) : Prop where
  c3 : w.cell? ⟨b, 3, none⟩ = some (.int .i64 g.gen)
  c6 : w.cell? ⟨b, 6, none⟩ = some (.slice (some ⟨r, 0, none⟩) n c)
  pos : (0 : Int) < n
  c0 : w.cell? ⟨r, 0, none⟩ = some (.int .i64 (firstM g.ones))
  lb : b < w.heap.size
  lr : r < w.heap.size
theorem RGrp.heads {G : Nat → Prop} {b : Nat} {g : GroupC} (h : RGrp w G b g) (hne : g.ones.length ≠ 0) : ∃ r n c, HeadG w b g r n c := by
  obtain ⟨v, L, h⟩ := h
  have hl := h.len
  rcases h.form with ⟨rfl, _⟩ | ⟨r, cap, rfl, hrb, hrl, hcap, _⟩
  · exact absurd hl hne
  · refine ⟨r, L.length, cap, block_cell h.blk 3, block_cell h.blk 6, by omega, ?_, block_lt h.blk, hrl⟩
    have h0 : 0 < L.length := by omega
    have h1 := (h.cell rfl 0 h0).1
    rw [← h.ones]
    cases L with
    | nil => exact absurd h0 (Nat.lt_irrefl _)
    | cons x L => simpa [firstM, OneV.core] using h1
theorem HeadG.keep {b r n c : Nat} {g : GroupC} (h : HeadG w b g r n c) (hk : K0 w w') : HeadG w' b g r n c :=
  ⟨hk.cell' h.c3 (fun e => e), hk.cell' h.c6 (fun e => e), h.pos, hk.cell' h.c0 (fun e => e), Nat.lt_of_lt_of_le h.lb hk.size, Nat.lt_of_lt_of_le h.lr hk.size⟩
theorem rgrp_new {b : Nat} (s r : Int) (h : w.heap[b]? = some (.cells #[.int .i64 s, .int .i64 r, .int .i64 0, .int .i64 0, .int .i64 0, .int .i64 0, .slice none 0 0] 81 (0, 0))) : RGrp w (fun k => k = b) b (newG s r) :=
  ⟨.slice none 0 0, [], h, World.ownsRow_nil _ _ _ _, rfl, fun k e => by have e : k = b := e; rw [e]; exact block_lt h, (fun k e => by cases e), rfl, (fun x hx => by cases hx)⟩
structure TabN (w wx : World) (cb r : Nat) (v : Value) (L : List NameP) (i : Nat) : Prop where
  k0 : K0 w wx
  c2 : wx.cell? ⟨cb, 2, none⟩ = some v
  lt : cb < wx.heap.size
  f2 : wx.frozen? ⟨cb, 2, none⟩ = false
  n1 : ∀ q u, ((L.take i).flatMap encN)[q]? = some u → wx.cell? ((⟨r, 0, none⟩ : Addr).add q) = some u
  n2 : ∀ q u, ((L.drop i).flatMap encN)[q]? = some u → wx.cell? ((⟨r, i * 2, none⟩ : Addr).add q) = some u
theorem RCAt.tabN {wx : World} {r cap : Nat} (h : RCAt w F cb C Y (.slice (some ⟨r, 0, none⟩) Y.L.length cap)) (hk : K0 w wx) (i : Nat) : TabN w wx cb r (.slice (some ⟨r, 0, none⟩) Y.L.length cap) Y.L i := by
  have h1 := h.keep hk (fun _ _ e => e)
  have hcells : ∀ q u, (Y.L.flatMap encN)[q]? = some u → wx.cell? ⟨r, q, none⟩ = some u := fun q u hu => by
    have hj : q < (Y.L.flatMap encN).length := (List.getElem?_eq_some_iff.1 hu).1
    rw [h1.row.cellAt q (by rw [y_flat_len encN 2 encN_len] at hj; exact hj)]
    exact hu
  refine ⟨hk, block_cell h1.blk 2, block_lt h1.blk, block_free h1.blk 2, fun q u hu => ?_, fun q u hu => ?_⟩
  · rw [y_flatN_take encN 2 encN_len, List.getElem?_take] at hu
    split at hu
    · rw [y_add_at, Nat.zero_add]; exact hcells q u hu
    · cases hu
  · rw [y_flatN_drop encN 2 encN_len, List.getElem?_drop] at hu
    rw [y_add_at]
    exact hcells _ u hu
structure NilN (w wx : World) (cb : Nat) : Prop where
  k0 : K0 w wx
  c2 : wx.cell? ⟨cb, 2, none⟩ = some (.slice none 0 0)
  lt : cb < wx.heap.size
  f2 : wx.frozen? ⟨cb, 2, none⟩ = false
theorem RCAt.nilN {wx : World} (h : RCAt w F cb C Y (.slice none 0 0)) (hk : K0 w wx) : NilN w wx cb :=
  have h1 := h.keep hk (fun _ _ e => e)
  ⟨hk, block_cell h1.blk 2, block_lt h1.blk, block_free h1.blk 2⟩
set_option maxRecDepth 100000 in
set_option maxHeartbeats 8000000 in
theorem rcjoin_bad (h : RCAt w F cb C Y v) (s : ByteArray) (m now : Int) (a : Option Addr) (n c : Nat) (topics : List ByteArray) (hs : s.size = 0 ∨ 100 < s.size) :
    Calls Tryz.prog 26 #[.pointer (some ⟨cb, 0, none⟩), .string s, .int .i64 m, .slice a n c, .int .i64 now] w (RCJoinP w F cb C s m topics now) := by
  have HP : Hid (RCJoinP w F cb C s m topics now (.returned (.tuple #[.int .i64 0, .int .i64 0, .int .i64 0, .int .i64 1])) w) := RCJoinP.err (by unfold cjoinE; rw [if_pos hs]) (by decide) (RCpost.same ⟨_, _, h⟩ (Keeps.refl _ _))
  clear h
  by_cases h0 : s.size = 0
  · have h1 : (s.size : Int) < 1 := by omega
    clear h0 hs
    go_enter Tryz.func26, Tryz.ntmps26
    go_wp2
    (try simp only [Exit.inBlock, Exit.then])
    refine bodyPost_ret (results_tmp4 rfl _ _ _) rfl ?_
    exact HP.out
  · have h1 : ¬ (s.size : Int) < 1 := by omega
    have h2 : 100 < (s.size : Int) := by omega
    clear h0 hs
    go_enter Tryz.func26, Tryz.ntmps26
    go_wp2
    (try simp only [Exit.inBlock, Exit.then])
    refine bodyPost_ret (results_tmp4 rfl _ _ _) rfl ?_
    exact HP.out
set_option maxRecDepth 100000 in
set_option maxHeartbeats 8000000 in
theorem rcjoin_full (h : RCAt w F cb C Y v) (s : ByteArray) (m now : Int) (a : Option Addr) (n c : Nat) (topics : List ByteArray) (hs : 1 ≤ s.size ∧ s.size ≤ 100) (e : aget Y.L s = none) (hf : 20 ≤ Y.L.length) (hE : cjoinE C s m topics now = 5) :
    Calls Tryz.prog 26 #[.pointer (some ⟨cb, 0, none⟩), .string s, .int .i64 m, .slice a n c, .int .i64 now] w (RCJoinP w F cb C s m topics now) := by
  have HFI := Lib.hid (rcfind_any s h)
  have HH := Lib.hid h
  rw [e] at HFI
  have i1 : ¬ (s.size : Int) < 1 := by omega
  have i2 : ¬ 100 < (s.size : Int) := by omega
  have HP : Hid (∀ wx, K0 w wx → RCJoinP w F cb C s m topics now (.returned (.tuple #[.int .i64 0, .int .i64 0, .int .i64 0, .int .i64 5])) wx) := fun wx hk => RCJoinP.err hE (by decide) (RCpost.same ⟨_, _, h⟩ hk)
  have i3 : 20 ≤ (Y.L.length : Int) := by omega
  clear h hs e hf hE
  go_enter Tryz.func26, Tryz.ntmps26
  go_wp2_with fail
  refine HFI.out.mono ?_
  rintro e w1 ⟨rfl, k1⟩
  dsimp only [ptrOf]
  have HK1 := Lib.hid k1
  have H1 := Lib.hid (HH.out.keep k1 (fun _ _ e => e))
  obtain ⟨va, vc, rfl⟩ := y_own_slice H1.out.row
  have x2 : w1.cell? ⟨cb, 2, none⟩ = some (.slice va Y.L.length vc) := block_cell H1.out.blk 2
  have xl := block_lt H1.out.blk
  clear k1
  go_wp2
  (try simp only [Exit.inBlock, Exit.then])
  refine bodyPost_ret (results_tmp4 rfl _ _ _) rfl ?_
  exact HP.out _ HK1.out
set_option maxRecDepth 100000 in
set_option maxHeartbeats 8000000 in
theorem rcjoin_found (h : RCAt w F cb C Y v) (s : ByteArray) (m now : Int) (tv : Value) (topics : List ByteArray) (hs : 1 ≤ s.size ∧ s.size ≤ 100) {b : Nat} {g : GroupC} (e : aget Y.L s = some (b, g)) {n : Nat} (ok : Ok (n + 1) g) (htl : topics.length ≤ 1000)
    (hm : -9223372036854775808 ≤ m ∧ m ≤ 9223372036854775807) (ht : Out 1 rStr w (fun k => ¬ F k) tv topics) (hE : cjoinE C s m topics now = joinE g m topics now) (hB : cbase C s = g) :
    Calls Tryz.prog 26 #[.pointer (some ⟨cb, 0, none⟩), .string s, .int .i64 m, tv, .int .i64 now] w (RCJoinP w F cb C s m topics now) := by
  have HFI := Lib.hid (rcfind_any s h)
  have HH := Lib.hid h
  rw [e] at HFI
  have i1 : ¬ (s.size : Int) < 1 := by omega
  have i2 : ¬ 100 < (s.size : Int) := by omega
  have HTO := Lib.hid ht
  obtain ⟨ta, tc, rfl, _, _⟩ := ht
  have hA : aget C.gs s = some g := (h.agetL s).trans (by rw [e]; rfl)
  have HAP : Hid ((aget C.gs s).isSome = true) := by show _ = _; rw [hA]; rfl
  have HB : Hid (∀ wx, K0 w wx → Calls Tryz.prog 51 #[.pointer (some ⟨b, 0, none⟩), .int .i64 m, .slice ta topics.length tc, .int .i64 now] wx fun e w' => e = .returned (.tuple #[.int .i64 (if joinE g m topics now = 0 then nextM g m else 0), .int .i64 (joinE g m topics now)]) ∧ RCpost w F cb ⟨C.s, C.r, aput C.gs s (if joinE g m topics now = 0 then joinG g m topics now else g), C.off⟩ w' ∧ ∃ F', RGrp w' F' b (if joinE g m topics now = 0 then joinG g m topics now else g)) := fun wx hk => by
    have h1 := HH.out.keep hk (fun _ _ e => e)
    obtain ⟨i, hi, _, hix, hg⟩ := h1.at e
    refine (rjoin_any wx (Y.fp i) b g m now _ topics hg ok.wf hm (by have := ok.next; omega) htl (HTO.out.keep still_str hk (fun _ _ _ e => e) (fun k _ e e2 => e (HH.out.fpn i k hi e2).1))).mono ?_
    rintro e w' ⟨rfl, hq⟩
    refine ⟨rfl, RCpost.trans hk HH.out.lt (h1.turn e (hix ▸ hq)), ?_⟩
    obtain ⟨F', q1, _⟩ := hq
    exact ⟨F', q1⟩
  have HAG : Hid (aput C.gs s g = C.gs) := by show _ = _; exact aput_same hA
  clear h hs e ok hA
  by_cases hj : joinE g m topics now = 0
  · rw [if_pos hj, if_pos hj] at HB
    rw [hj] at HB
    have HFIN : Hid (∀ wz, RCpost w F cb ⟨C.s, C.r, aput C.gs s (joinG g m topics now), C.off⟩ wz → RCJoinP w F cb C s m topics now (.returned (.tuple #[.int .i64 (nextM g m), .int .i64 (joinG g m topics now).gen, .int .i64 (firstM (joinG g m topics now).ones), .int .i64 0])) wz) := fun wz hq => RCJoinP.fine hB rfl (hE.trans hj) (by unfold rcput; rw [if_pos HAP.out]; exact hq)
    have HLEN := Lib.hid (joinG_len hj)
    clear hj hE hB
    go_enter Tryz.func26, Tryz.ntmps26
    go_wp2_with fail
    refine HFI.out.mono ?_
    rintro e w1 ⟨rfl, k1⟩
    dsimp only [ptrOf]
    have HK1 := Lib.hid k1
    clear k1
    go_wp2_with fail
    refine (HB.out _ HK1.out).mono ?_
    rintro e w2 ⟨rfl, hq, F', hg⟩
    have HQ := Lib.hid hq
    obtain ⟨r, nn, cc, hh⟩ := hg.heads HLEN.out
    have z3 := hh.c3
    have z6 := hh.c6
    have zp := hh.pos
    have z0 := hh.c0
    have zb := hh.lb
    have zr := hh.lr
    clear hq hg hh
    generalize (joinG g m topics now).gen = gg at *
    generalize firstM (joinG g m topics now).ones = ff at *
    go_wp2
    go_quiet (fail)
    go_wp2
    (try simp only [Exit.inBlock, Exit.then])
    refine bodyPost_ret (results_tmp4 rfl _ _ _) rfl ?_
    exact HFIN.out _ (HQ.out.after ((Keeps.refl _ _).drewN _))
  · rw [if_neg hj, if_neg hj, HAG.out] at HB
    have HFIN : Hid (∀ wz, RCpost w F cb C wz → RCJoinP w F cb C s m topics now (.returned (.tuple #[.int .i64 0, .int .i64 0, .int .i64 0, .int .i64 (joinE g m topics now)])) wz) := fun wz hq => RCJoinP.err hE hj hq
    have hjb : (joinE g m topics now == 0) = false := by simpa using hj
    have hjc : (joinE g m topics now != 0) = true := by simpa using hj
    generalize joinE g m topics now = er at *
    clear hj hE hB
    go_enter Tryz.func26, Tryz.ntmps26
    go_wp2_with fail
    refine HFI.out.mono ?_
    rintro e w1 ⟨rfl, k1⟩
    dsimp only [ptrOf]
    have HK1 := Lib.hid k1
    clear k1
    go_wp2_with fail
    refine (HB.out _ HK1.out).mono ?_
    rintro e w2 ⟨rfl, hq, _⟩
    have HQ := Lib.hid hq
    clear hq
    go_wp2
    (try simp only [Exit.inBlock, Exit.then])
    refine bodyPost_ret (results_tmp4 rfl _ _ _) rfl ?_
    exact HFIN.out _ HQ.out
set_option maxRecDepth 100000 in
set_option maxHeartbeats 8000000 in
theorem rcjoin_new_err (h : RCAt w F cb C Y v) (s : ByteArray) (m now : Int) (tv : Value) (topics : List ByteArray) (hs : 1 ≤ s.size ∧ s.size ≤ 100) (e : aget Y.L s = none) (hf : Y.L.length < 20) (hsr : (1 ≤ C.s ∧ C.s ≤ 100000) ∧ 1 ≤ C.r ∧ C.r ≤ 100000) (htl : topics.length ≤ 1000)
    (hm : -9223372036854775808 ≤ m ∧ m ≤ 9223372036854775807) (ht : Out 1 rStr w (fun k => ¬ F k) tv topics) (hE : cjoinE C s m topics now = joinE (newG C.s C.r) m topics now) (hj : ¬ joinE (newG C.s C.r) m topics now = 0) :
    Calls Tryz.prog 26 #[.pointer (some ⟨cb, 0, none⟩), .string s, .int .i64 m, tv, .int .i64 now] w (RCJoinP w F cb C s m topics now) := by
  have HFI := Lib.hid (rcfind_any s h)
  have HH := Lib.hid h
  rw [e] at HFI
  have i1 : ¬ (s.size : Int) < 1 := by omega
  have i2 : ¬ 100 < (s.size : Int) := by omega
  have HTO := Lib.hid ht
  obtain ⟨ta, tc, rfl, _, _⟩ := ht
  have ok := Ok.new hsr.1 hsr.2
  have HB : Hid (∀ wx nb, K0 w wx → w.heap.size ≤ nb → RGrp wx (fun k => k = nb) nb (newG C.s C.r) → Calls Tryz.prog 51 #[.pointer (some ⟨nb, 0, none⟩), .int .i64 m, .slice ta topics.length tc, .int .i64 now] wx fun e w' => e = .returned (.tuple #[.int .i64 (if joinE (newG C.s C.r) m topics now = 0 then nextM (newG C.s C.r) m else 0), .int .i64 (joinE (newG C.s C.r) m topics now)]) ∧ (∃ G, RGrp w' G nb (if joinE (newG C.s C.r) m topics now = 0 then joinG (newG C.s C.r) m topics now else newG C.s C.r) ∧ ∀ j, G j → w.heap.size ≤ j) ∧ K0 w w') := fun wx nb hk hnb hg => by
    refine (rjoin_any wx (fun k => k = nb) nb (newG C.s C.r) m now _ topics hg ok.wf hm (by have := ok.next; omega) htl (HTO.out.keep still_str hk (fun _ _ _ e => e) (fun k hlt _ e => by have e : k = nb := e; omega))).mono ?_
    rintro e w' ⟨rfl, G, q1, q2, q3⟩
    exact ⟨rfl, ⟨G, q1, fun j e => (q2 j e).elim (fun e => by have e : j = nb := e; omega) (fun e => Nat.le_trans hk.size e)⟩, hk.trans q3 (fun k hlt e => by have e : k = nb := e; omega)⟩
  have i3 : ¬ 20 ≤ (Y.L.length : Int) := by omega
  rw [if_neg hj, if_neg hj] at HB
  have HFIN : Hid (∀ wz, K0 w wz → RCJoinP w F cb C s m topics now (.returned (.tuple #[.int .i64 0, .int .i64 0, .int .i64 0, .int .i64 (joinE (newG C.s C.r) m topics now)])) wz) := fun wz hk => RCJoinP.err hE hj (RCpost.same ⟨_, _, HH.out⟩ hk)
  have hjb : (joinE (newG C.s C.r) m topics now == 0) = false := by simpa using hj
  have hjc : (joinE (newG C.s C.r) m topics now != 0) = true := by simpa using hj
  generalize joinE (newG C.s C.r) m topics now = er at *
  clear h hs e ok hf hj hE hsr
  go_enter Tryz.func26, Tryz.ntmps26
  go_wp2_with fail
  refine HFI.out.mono ?_
  rintro e w1 ⟨rfl, k1⟩
  dsimp only [ptrOf]
  have HK1 := Lib.hid k1
  have H1 := Lib.hid (HH.out.keep k1 (fun _ _ e => e))
  obtain ⟨va, vc, rfl⟩ := y_own_slice H1.out.row
  have x0 : w1.cell? ⟨cb, 0, none⟩ = some (.int .i64 C.s) := block_cell H1.out.blk 0
  have x1 : w1.cell? ⟨cb, 1, none⟩ = some (.int .i64 C.r) := block_cell H1.out.blk 1
  have x2 : w1.cell? ⟨cb, 2, none⟩ = some (.slice va Y.L.length vc) := block_cell H1.out.blk 2
  have xl := block_lt H1.out.blk
  clear k1
  go_upto_region 8 with fail
  go_cut [14] (fun gv wz => ∃ nb, gv = .pointer (some ⟨nb, 0, none⟩) ∧ K0 w wz ∧ w.heap.size ≤ nb ∧ RGrp wz (fun k => k = nb) nb (newG C.s C.r))
  case first =>
    go_region
    all_goals (go_wp2; go_meet; case rel => exact ⟨_, rfl, (HK1.out.alloc _).drew, HK1.out.size, rgrp_new _ _ (heap_new _ _ _ rfl)⟩)
  case rest =>
    obtain ⟨nb, rfl, hkz, hnb, hgz⟩ := hcut
    obtain ⟨wz, rfl⟩ : ∃ wz : World, wz = wc := ⟨_, rfl⟩
    have HBZ := Lib.hid (HB.out wz nb hkz hnb hgz)
    have HNB := Lib.hid hnb
    clear x0 x1 x2 xl hkz hgz hnb
    go_wp2_with fail
    refine HBZ.out.mono ?_
    rintro e w2 ⟨rfl, ⟨G, hg, hG⟩, hk2⟩
    have HK2 := Lib.hid hk2
    have HG := Lib.hid hg
    have HGG := Lib.hid hG
    clear hk2 hg hG
    go_wp2
    (try simp only [Exit.inBlock, Exit.then])
    refine bodyPost_ret (results_tmp4 rfl _ _ _) rfl ?_
    exact HFIN.out _ HK2.out
set_option maxRecDepth 100000 in
set_option maxHeartbeats 8000000 in
theorem rcjoin_new (h : RCAt w F cb C Y v) (s : ByteArray) (m now : Int) (tv : Value) (topics : List ByteArray) (hs : 1 ≤ s.size ∧ s.size ≤ 100) (e : aget Y.L s = none) (hf : Y.L.length < 20) (hsr : (1 ≤ C.s ∧ C.s ≤ 100000) ∧ 1 ≤ C.r ∧ C.r ≤ 100000) (htl : topics.length ≤ 1000)
    (hm : -9223372036854775808 ≤ m ∧ m ≤ 9223372036854775807) (ht : Out 1 rStr w (fun k => ¬ F k) tv topics) (hE : cjoinE C s m topics now = joinE (newG C.s C.r) m topics now) (hB : cbase C s = newG C.s C.r) (hj : joinE (newG C.s C.r) m topics now = 0) :
    Calls Tryz.prog 26 #[.pointer (some ⟨cb, 0, none⟩), .string s, .int .i64 m, tv, .int .i64 now] w (RCJoinP w F cb C s m topics now) := by
  have HFI := Lib.hid (rcfind_any s h)
  have HH := Lib.hid h
  rw [e] at HFI
  have i1 : ¬ (s.size : Int) < 1 := by omega
  have i2 : ¬ 100 < (s.size : Int) := by omega
  have HTO := Lib.hid ht
  obtain ⟨ta, tc, rfl, _, _⟩ := ht
  have ok := Ok.new hsr.1 hsr.2
  have HB : Hid (∀ wx nb, K0 w wx → w.heap.size ≤ nb → RGrp wx (fun k => k = nb) nb (newG C.s C.r) → Calls Tryz.prog 51 #[.pointer (some ⟨nb, 0, none⟩), .int .i64 m, .slice ta topics.length tc, .int .i64 now] wx fun e w' => e = .returned (.tuple #[.int .i64 (if joinE (newG C.s C.r) m topics now = 0 then nextM (newG C.s C.r) m else 0), .int .i64 (joinE (newG C.s C.r) m topics now)]) ∧ (∃ G, RGrp w' G nb (if joinE (newG C.s C.r) m topics now = 0 then joinG (newG C.s C.r) m topics now else newG C.s C.r) ∧ ∀ j, G j → w.heap.size ≤ j) ∧ K0 w w') := fun wx nb hk hnb hg => by
    refine (rjoin_any wx (fun k => k = nb) nb (newG C.s C.r) m now _ topics hg ok.wf hm (by have := ok.next; omega) htl (HTO.out.keep still_str hk (fun _ _ _ e => e) (fun k hlt _ e => by have e : k = nb := e; omega))).mono ?_
    rintro e w' ⟨rfl, G, q1, q2, q3⟩
    exact ⟨rfl, ⟨G, q1, fun j e => (q2 j e).elim (fun e => by have e : j = nb := e; omega) (fun e => Nat.le_trans hk.size e)⟩, hk.trans q3 (fun k hlt e => by have e : k = nb := e; omega)⟩
  have i3 : ¬ 20 ≤ (Y.L.length : Int) := by omega
  have hA : aget C.gs s = none := (h.agetL s).trans (by rw [e]; rfl)
  rw [if_pos hj, if_pos hj] at HB
  rw [hj] at HB
  have HLEN := Lib.hid (joinG_len hj)
  have HFIN : Hid (∀ wz k, k ≤ Y.L.length → (∀ j (hj : j < Y.L.length), j < k → sltB Y.L[j].1 s = true) → (∀ hk : k < Y.L.length, sltB Y.L[k].1 s = false) → RCpost w F cb ⟨C.s, C.r, C.gs.take k ++ (s, joinG (newG C.s C.r) m topics now) :: C.gs.drop k, C.off⟩ wz → RCJoinP w F cb C s m topics now (.returned (.tuple #[.int .i64 (nextM (newG C.s C.r) m), .int .i64 (joinG (newG C.s C.r) m topics now).gen, .int .i64 (firstM (joinG (newG C.s C.r) m topics now).ones), .int .i64 0])) wz) := fun wz k hk h1 h2 hq => by
    refine RCJoinP.fine hB rfl (hE.trans hj) ?_
    have hlen : C.gs.length = Y.L.length := by rw [← HH.out.core]; simp [gcore]
    have hge : ∀ j (hj : j < C.gs.length), C.gs[j].1 = (Y.L[j]'(by omega)).1 := fun j hj => by
      have h9 : gcore Y.L = C.gs := HH.out.core
      simp only [← h9]
      simp [gcore]
    have hins : insAt C.gs s = k := takeWhile_at _ _ _ (by omega) (fun j hj hjk => by rw [hge j hj]; exact h1 j (by omega) hjk) (fun hk => by rw [hge k hk]; exact h2 (by omega))
    unfold rcput
    rw [hA, if_neg (by simp), hins]
    exact hq
  clear h hs e ok hf hj hE hsr hA hB
  go_enter Tryz.func26, Tryz.ntmps26
  go_wp2_with fail
  refine HFI.out.mono ?_
  rintro e w1 ⟨rfl, k1⟩
  dsimp only [ptrOf]
  have HK1 := Lib.hid k1
  have H1 := Lib.hid (HH.out.keep k1 (fun _ _ e => e))
  obtain ⟨va, vc, rfl⟩ := y_own_slice H1.out.row
  have x0 : w1.cell? ⟨cb, 0, none⟩ = some (.int .i64 C.s) := block_cell H1.out.blk 0
  have x1 : w1.cell? ⟨cb, 1, none⟩ = some (.int .i64 C.r) := block_cell H1.out.blk 1
  have x2 : w1.cell? ⟨cb, 2, none⟩ = some (.slice va Y.L.length vc) := block_cell H1.out.blk 2
  have xl := block_lt H1.out.blk
  clear k1
  go_upto_region 8 with fail
  go_cut [14] (fun gv wz => ∃ nb, gv = .pointer (some ⟨nb, 0, none⟩) ∧ K0 w wz ∧ w.heap.size ≤ nb ∧ RGrp wz (fun k => k = nb) nb (newG C.s C.r))
  case first =>
    go_region
    all_goals (go_wp2; go_meet; case rel => exact ⟨_, rfl, (HK1.out.alloc _).drew, HK1.out.size, rgrp_new _ _ (heap_new _ _ _ rfl)⟩)
  case rest =>
    obtain ⟨nb, rfl, hkz, hnb, hgz⟩ := hcut
    obtain ⟨wz, rfl⟩ : ∃ wz : World, wz = wc := ⟨_, rfl⟩
    have HBZ := Lib.hid (HB.out wz nb hkz hnb hgz)
    have HNB := Lib.hid hnb
    clear x0 x1 x2 xl hkz hgz hnb
    go_wp2_with fail
    refine HBZ.out.mono ?_
    rintro e w2 ⟨rfl, ⟨G, hg, hG⟩, hk2⟩
    have HK2 := Lib.hid hk2
    have HG := Lib.hid hg
    have HGG := Lib.hid hG
    obtain ⟨r, nn, cc, hhd⟩ := hg.heads HLEN.out
    have HED : Hid (∀ wx, K0 w2 wx → HeadG wx nb (joinG (newG C.s C.r) m topics now) r nn cc) := fun wx hk => hhd.keep hk
    have HCB : Hid (cb < w.heap.size) := block_lt HH.out.blk
    have hnr : ∀ k, G k → cb ≠ k := fun k e => by have := HGG.out k e; have := HCB.out; omega
    have HED2 : Hid (∀ (u : Value) wx, K0 w2 wx → HeadG (wx.setCell ⟨cb, 2, none⟩ u) nb (joinG (newG C.s C.r) m topics now) r nn cc) := fun u wx hk => by
      have hgx := hg.keep (hk.mono (S1 := fun k => k = cb) (fun _ _ e => e.elim) |>.setC 2 u (fun _ => rfl)) (fun k e e2 => hnr k e e2.symm)
      obtain ⟨r', n', c', h'⟩ := hgx.heads HLEN.out
      have q1 := (hhd.keep hk).c6
      have q2 : (wx.setCell ⟨cb, 2, none⟩ u).cell? ⟨nb, 6, none⟩ = some (.slice (some ⟨r, 0, none⟩) nn cc) := (World.cell?_setCell_other _ _ _ _ (by have := HNB.out; have := HCB.out; first | (simp; done) | (simp; omega))).trans q1
      have q3 := h'.c6
      rw [q2] at q3
      simp only [Option.some.injEq, Value.slice.injEq, Addr.mk.injEq] at q3
      obtain ⟨⟨rfl, _⟩, rfl, rfl⟩ := q3
      exact h'
    have HINS : Hid (∀ (k : Nat) (wr : World) (nv : Value), k ≤ Y.L.length → K0 w2 wr → wr.ownsRow w2.heap.size 88 2 nv (Y.L.length + 1) ((Y.L.take k).flatMap encN ++ [.string s, .pointer (some ⟨nb, 0, none⟩)] ++ (Y.L.drop k).flatMap encN) → RCpost w F cb ⟨C.s, C.r, C.gs.take k ++ (s, joinG (newG C.s C.r) m topics now) :: C.gs.drop k, C.off⟩ (wr.setCell ⟨cb, 2, none⟩ nv)) := fun k wr nv hk hkr hrow => by
      refine HH.out.insert HK2.out hg HGG.out hkr hk ?_
      rw [List.flatMap_append, List.flatMap_cons, ← List.append_assoc]
      exact hrow
    have hcap := HH.out.form
    have hown0 : w2.ownsRow w2.heap.size 88 2 (.slice none 0 0) 0 [] := World.ownsRow_nil _ _ _ _
    clear hk2 hg hG hnr hhd
    rcases hcap with ⟨hnil, hv⟩ | ⟨r9, cap, hv, hrb, hrl, hcap, hFr, hcm⟩
    · simp only [Value.slice.injEq] at hv
      obtain ⟨rfl, hlen0, rfl⟩ := hv
      have HN := Lib.hid hnil
      have HTN : Hid (∀ wx, K0 w2 wx → NilN w2 wx cb) := fun wx hk => by
        have h9 := HH.out.keep HK2.out (fun _ _ e => e)
        rw [HN.out] at h9
        exact h9.nilN hk
      obtain ⟨_, s2, s3, s4⟩ := HTN.out w2 (Keeps.refl _ _)
      clear hnil hlen0 i3
      go_wp2
      refine wp_loop_once ?_
      go_wp2_with (at_builtin; first | (refine wpList_appZ rfl rfl Tryz.underlying74 infoNamed rfl hown0 rfl ?_) | (refine wpList_app1 rfl rfl Tryz.underlying74 infoNamed rfl (by decide) rfl (hown0.alloc _) rfl (heap_new _ _ _ rfl) rfl rfl ⟨by omega, by decide⟩ (by first | (simp; done) | (simp; omega)) ?_; intro g2 c2 w3 hA2; have hk3 : K0 w2 w3 := ((Keeps.refl _ _).alloc _).grown hA2.grown (fun k e => by cases e); have HK4 := Lib.hid hk3; have ho2 := hA2.own; have HV2 := Lib.hid ho2; obtain ⟨_, y2, y3, y4⟩ := HTN.out w3 hk3; have HTX := HED.out w3 hk3; obtain ⟨e3, e6, ep, e0, eb, er⟩ := HTX; clear hk3 hA2) | (refine wpList_appZ rfl rfl Tryz.underlying74 infoNamed rfl ho2 rfl ?_; clear ho2))
      have HFX : Hid (∀ wz, K0 _ wz → RCJoinP w F cb C s m topics now (.returned (.tuple #[.int .i64 (nextM (newG C.s C.r) m), .int .i64 (joinG (newG C.s C.r) m topics now).gen, .int .i64 (firstM (joinG (newG C.s C.r) m topics now).ones), .int .i64 0])) wz) := fun wz hk => HFIN.out wz 0 (Nat.zero_le _) (fun j _ hj => absurd hj (Nat.not_lt_zero _)) (fun h0 => by rw [HN.out] at h0; exact absurd h0 (Nat.lt_irrefl _)) ((HINS.out 0 _ (.slice (some ⟨g2, 0, none⟩) 1 c2) (Nat.zero_le _) HK4.out (by have h9 := HV2.out; rw [HN.out]; exact h9)).after hk)
      obtain ⟨q3, q6, qp, q0, qb, qr⟩ := HED2.out (.slice (some ⟨g2, 0, none⟩) 1 c2) _ HK4.out
      go_quiet (fail)
      go_wp2
      (try simp only [Exit.inBlock, Exit.then])
      refine bodyPost_ret (results_tmp4 rfl _ _ _) rfl ?_
      exact HFX.out _ ((Keeps.refl _ _).drewN _)
    · simp only [Value.slice.injEq] at hv
      obtain ⟨rfl, _, rfl⟩ := hv
      have HTF : Hid (∀ k wx, K0 w2 wx → TabN w2 wx cb r9 (.slice (some ⟨r9, 0, none⟩) Y.L.length vc) Y.L k) := fun k wx hk => (HH.out.keep HK2.out (fun _ _ e => e)).tabN hk k
      have H2 := Lib.hid (HH.out.keep HK2.out (fun _ _ e => e))
      go_wp2
      go_loopw [18] (fun i wr => ∃ k : Nat, i = .int .i64 k ∧ k ≤ Y.L.length ∧ (∀ j (hj : j < Y.L.length), j < k → sltB Y.L[j].1 s = true) ∧ wr = w2) (fun i _ => Y.L.length - (intOf i).toNat)
      case atStart => exact ⟨0, rfl, by omega, fun _ _ h => absurd h (Nat.not_lt_zero _), rfl⟩
      case round =>
        obtain ⟨k, rfl, hk, hq, hwr⟩ := hrel
        obtain rfl : w2 = wr := hwr.symm
        have HQ := Lib.hid hq
        have HKL := Lib.hid hk
        have i0 : (0 : Int) ≤ k := by omega
        have x2 : w2.cell? ⟨cb, 2, none⟩ = some (.slice (some ⟨r9, 0, none⟩) Y.L.length vc) := block_cell H2.out.blk 2
        have xl := block_lt H2.out.blk
        clear hq
        by_cases hlt : k < Y.L.length
        · obtain ⟨c0, c1⟩ := H2.out.cell rfl k hlt
          have HLT := Lib.hid hlt
          have hrl2 := cell_block1 c0
          have j1 : (k : Int) < Y.L.length := by omega
          cases hsl : sltB Y.L[k].1 s with
          | true =>
            have HSL := Lib.hid hsl
            have hsl' : Op.bytesLess Y.L[k].1.toList s.toList = true := hsl
            generalize Y.L[k].1 = xg at c0 hsl'
            clear hsl
            go_wp2
            go_roundw
            case rel => exact ⟨k + 1, by go_num, HLT.out, fun j hj h2 => (Nat.lt_succ_iff_lt_or_eq.1 h2).elim (HQ.out j hj) fun e => by subst e; exact HSL.out, by first | rfl | trivial⟩
            case measure => have := HLT.out; simp [intOf]; omega
          | false =>
            have HSL : Hid (∀ hk : k < Y.L.length, sltB Y.L[k].1 s = false) := fun _ => hsl
            have hsl' : Op.bytesLess Y.L[k].1.toList s.toList = false := hsl
            generalize Y.L[k].1 = xg at c0 hsl'
            clear hsl
            have HTK := Lib.hid (fun wx hk => HTF.out k wx hk)
            obtain ⟨_, s2, s3, s4, _, _⟩ := HTK.out w2 (Keeps.refl _ _)
            have hn1 := (HTK.out w2 (Keeps.refl _ _)).n1
            have hl1 : ((Y.L.take k).flatMap encN).length = k * 2 := by rw [y_flat_len encN 2 encN_len, List.length_take]; congr 1; omega
            have hl2 : ((Y.L.drop k).flatMap encN).length = (Y.L.length - k) * 2 := by rw [y_flat_len encN 2 encN_len, List.length_drop]
            have hc1 : ∀ u ∈ (Y.L.take k).flatMap encN, u.oneCell' = true := fun u hu => by
              obtain ⟨y, hy, hu⟩ := List.mem_flatMap.1 hu
              exact encN_one y u hu
            have hc2 : ∀ u ∈ (Y.L.drop k).flatMap encN, u.oneCell' = true := fun u hu => by
              obtain ⟨y, hy, hu⟩ := List.mem_flatMap.1 hu
              exact encN_one y u hu
            have k1 : (k : Int) ≤ vc := by omega
            have k2 : (k : Int) ≤ Y.L.length := by omega
            have k4 : (Y.L.length : Int) ≤ vc := by omega
            have hce : ¬ vc = k := by omega
            go_wp2_with (at_builtin; first | (refine y_wpList_appN rfl rfl Tryz.underlying74 infoNamed rfl (by decide) rfl hown0 rfl hl1 hn1 hc1 ⟨by omega, by decide⟩ (Nat.le_refl _) ?_; intro v1 w3 hv1 hg1; simp only [Nat.zero_add, List.nil_append] at hv1; obtain ⟨va1, vc1, rfl⟩ := y_own_slice hv1; have hk1 : K0 w2 w3 := y_grown1 hg1; have hz1 := hk1.size; obtain ⟨_, t2, t3, t4, t5, t6⟩ := HTK.out w3 hk1; clear hn1) | (refine wpList_app1 rfl rfl Tryz.underlying74 infoNamed rfl (by decide) rfl (hv1.alloc _) rfl (heap_new _ _ _ rfl) rfl rfl ⟨by omega, by decide⟩ (by first | (simp; done) | (simp; omega)) ?_; intro g2 c2 w4 hA2; have hk3 : K0 w2 w4 := (hk1.alloc _).grown hA2.grown (fun k e hlt => absurd (hv1.lt k e).1 (by omega)); have hz2 := hk3.size; have ho2 := hA2.own; obtain ⟨_, y2, y3, y4, y5, y6⟩ := HTK.out w4 hk3; clear t2 t3 t4 t5 t6 hv1 hg1 hA2) | (refine y_wpList_appN rfl rfl Tryz.underlying74 infoNamed rfl (by decide) rfl ho2 rfl hl2 y6 hc2 ⟨by omega, by decide⟩ hz2 ?_; intro v3 w5 hv3 hg3; obtain ⟨va3, vc3, rfl⟩ := y_own_slice hv3; have hk4 : K0 w2 w5 := hk3.grown hg3 (fun k e hlt => absurd (ho2.lt k e).1 (by omega)); have HK4 := Lib.hid hk4; have HV3 := Lib.hid hv3; obtain ⟨_, z2, z3, z4, _, _⟩ := HTK.out w5 hk4; have HTX := HED.out w5 hk4; obtain ⟨e3, e6, ep, e0, eb, er⟩ := HTX; clear y2 y3 y4 y5 y6 hv3 hg3 ho2))
            have HFX : Hid (∀ wz, K0 (World.setCell w5 ⟨cb, 2, none⟩ (.slice va3 (Y.L.length + 1) vc3)) wz → RCJoinP w F cb C s m topics now (.returned (.tuple #[.int .i64 (nextM (newG C.s C.r) m), .int .i64 (joinG (newG C.s C.r) m topics now).gen, .int .i64 (firstM (joinG (newG C.s C.r) m topics now).ones), .int .i64 0])) wz) := fun wz hk9 => HFIN.out wz k HKL.out HQ.out HSL.out ((HINS.out k _ (.slice va3 (Y.L.length + 1) vc3) HKL.out HK4.out (by have h9 := HV3.out; rw [show k + 1 + (Y.L.length - k) = Y.L.length + 1 by have := HKL.out; omega] at h9; exact h9)).after hk9)
            obtain ⟨q3, q6, qp, q0, qb, qr⟩ := HED2.out (.slice va3 (Y.L.length + 1) vc3) _ HK4.out
            rw [show k + 1 + (Y.L.length - k) = Y.L.length + 1 by have := HKL.out; omega]
            go_quiet (fail)
            go_wp2
            (try simp only [Exit.inBlock, Exit.then])
            refine bodyPost_ret (results_tmp4 rfl _ _ _) rfl ?_
            exact HFX.out _ ((Keeps.refl _ _).drewN _)
        · have HSL : Hid (∀ hk : k < Y.L.length, sltB Y.L[k].1 s = false) := fun h9 => absurd h9 hlt
          have j1 : ¬ (k : Int) < Y.L.length := by omega
          have HTK := Lib.hid (fun wx hk => HTF.out k wx hk)
          obtain ⟨_, s2, s3, s4, _, _⟩ := HTK.out w2 (Keeps.refl _ _)
          have hn1 := (HTK.out w2 (Keeps.refl _ _)).n1
          have hl1 : ((Y.L.take k).flatMap encN).length = k * 2 := by rw [y_flat_len encN 2 encN_len, List.length_take]; congr 1; omega
          have hl2 : ((Y.L.drop k).flatMap encN).length = (Y.L.length - k) * 2 := by rw [y_flat_len encN 2 encN_len, List.length_drop]
          have hc1 : ∀ u ∈ (Y.L.take k).flatMap encN, u.oneCell' = true := fun u hu => by
            obtain ⟨y, hy, hu⟩ := List.mem_flatMap.1 hu
            exact encN_one y u hu
          have hc2 : ∀ u ∈ (Y.L.drop k).flatMap encN, u.oneCell' = true := fun u hu => by
            obtain ⟨y, hy, hu⟩ := List.mem_flatMap.1 hu
            exact encN_one y u hu
          have k1 : (k : Int) ≤ vc := by omega
          have k2 : (k : Int) ≤ Y.L.length := by omega
          have k4 : (Y.L.length : Int) ≤ vc := by omega
          by_cases hce : vc = k
          · obtain rfl : k = Y.L.length := by omega
            subst hce
            have hdn : (Y.L.drop Y.L.length).flatMap encN = [] := by rw [List.drop_length]; rfl
            have HDN := Lib.hid hdn
            clear hdn k1 k2 k4 hl2
            go_wp2_with (at_builtin; first | (refine y_wpList_appN rfl rfl Tryz.underlying74 infoNamed rfl (by decide) rfl hown0 rfl hl1 hn1 hc1 ⟨by omega, by decide⟩ (Nat.le_refl _) ?_; intro v1 w3 hv1 hg1; simp only [Nat.zero_add, List.nil_append] at hv1; obtain ⟨va1, vc1, rfl⟩ := y_own_slice hv1; have hk1 : K0 w2 w3 := y_grown1 hg1; have hz1 := hk1.size; obtain ⟨_, t2, t3, t4, t5, t6⟩ := HTK.out w3 hk1; clear hn1) | (refine wpList_app1 rfl rfl Tryz.underlying74 infoNamed rfl (by decide) rfl (hv1.alloc _) rfl (heap_new _ _ _ rfl) rfl rfl ⟨by omega, by decide⟩ (by first | (simp; done) | (simp; omega)) ?_; intro g2 c2 w4 hA2; have hk3 : K0 w2 w4 := (hk1.alloc _).grown hA2.grown (fun k e hlt => absurd (hv1.lt k e).1 (by omega)); have hz2 := hk3.size; have ho2 := hA2.own; obtain ⟨_, y2, y3, y4, y5, y6⟩ := HTK.out w4 hk3; clear t2 t3 t4 t5 t6 hv1 hg1 hA2) | (refine wpList_appZ rfl rfl Tryz.underlying74 infoNamed rfl ho2 rfl ?_; have HK4 := Lib.hid hk3; have HV3 := Lib.hid ho2; have HTX := HED.out w4 hk3; obtain ⟨e3, e6, ep, e0, eb, er⟩ := HTX; clear ho2))
            have HFX : Hid (∀ wz, K0 (World.setCell w4 ⟨cb, 2, none⟩ (.slice (some ⟨g2, 0, none⟩) (Y.L.length + 1) c2)) wz → RCJoinP w F cb C s m topics now (.returned (.tuple #[.int .i64 (nextM (newG C.s C.r) m), .int .i64 (joinG (newG C.s C.r) m topics now).gen, .int .i64 (firstM (joinG (newG C.s C.r) m topics now).ones), .int .i64 0])) wz) := fun wz hk9 => HFIN.out wz _ HKL.out HQ.out HSL.out ((HINS.out _ _ (.slice (some ⟨g2, 0, none⟩) (Y.L.length + 1) c2) HKL.out HK4.out (by have h9 := HV3.out; rw [HDN.out, List.append_nil]; exact h9)).after hk9)
            obtain ⟨q3, q6, qp, q0, qb, qr⟩ := HED2.out (.slice (some ⟨g2, 0, none⟩) (Y.L.length + 1) c2) _ HK4.out
            go_quiet (fail)
            go_wp2
            (try simp only [Exit.inBlock, Exit.then])
            refine bodyPost_ret (results_tmp4 rfl _ _ _) rfl ?_
            exact HFX.out _ ((Keeps.refl _ _).drewN _)
          · go_wp2_with (at_builtin; first | (refine y_wpList_appN rfl rfl Tryz.underlying74 infoNamed rfl (by decide) rfl hown0 rfl hl1 hn1 hc1 ⟨by omega, by decide⟩ (Nat.le_refl _) ?_; intro v1 w3 hv1 hg1; simp only [Nat.zero_add, List.nil_append] at hv1; obtain ⟨va1, vc1, rfl⟩ := y_own_slice hv1; have hk1 : K0 w2 w3 := y_grown1 hg1; have hz1 := hk1.size; obtain ⟨_, t2, t3, t4, t5, t6⟩ := HTK.out w3 hk1; clear hn1) | (refine wpList_app1 rfl rfl Tryz.underlying74 infoNamed rfl (by decide) rfl (hv1.alloc _) rfl (heap_new _ _ _ rfl) rfl rfl ⟨by omega, by decide⟩ (by first | (simp; done) | (simp; omega)) ?_; intro g2 c2 w4 hA2; have hk3 : K0 w2 w4 := (hk1.alloc _).grown hA2.grown (fun k e hlt => absurd (hv1.lt k e).1 (by omega)); have hz2 := hk3.size; have ho2 := hA2.own; obtain ⟨_, y2, y3, y4, y5, y6⟩ := HTK.out w4 hk3; clear t2 t3 t4 t5 t6 hv1 hg1 hA2) | (refine y_wpList_appN rfl rfl Tryz.underlying74 infoNamed rfl (by decide) rfl ho2 rfl hl2 y6 hc2 ⟨by omega, by decide⟩ hz2 ?_; intro v3 w5 hv3 hg3; obtain ⟨va3, vc3, rfl⟩ := y_own_slice hv3; have hk4 : K0 w2 w5 := hk3.grown hg3 (fun k e hlt => absurd (ho2.lt k e).1 (by omega)); have HK4 := Lib.hid hk4; have HV3 := Lib.hid hv3; obtain ⟨_, z2, z3, z4, _, _⟩ := HTK.out w5 hk4; have HTX := HED.out w5 hk4; obtain ⟨e3, e6, ep, e0, eb, er⟩ := HTX; clear y2 y3 y4 y5 y6 hv3 hg3 ho2))
            have HFX : Hid (∀ wz, K0 (World.setCell w5 ⟨cb, 2, none⟩ (.slice va3 (Y.L.length + 1) vc3)) wz → RCJoinP w F cb C s m topics now (.returned (.tuple #[.int .i64 (nextM (newG C.s C.r) m), .int .i64 (joinG (newG C.s C.r) m topics now).gen, .int .i64 (firstM (joinG (newG C.s C.r) m topics now).ones), .int .i64 0])) wz) := fun wz hk9 => HFIN.out wz k HKL.out HQ.out HSL.out ((HINS.out k _ (.slice va3 (Y.L.length + 1) vc3) HKL.out HK4.out (by have h9 := HV3.out; rw [show k + 1 + (Y.L.length - k) = Y.L.length + 1 by have := HKL.out; omega] at h9; exact h9)).after hk9)
            obtain ⟨q3, q6, qp, q0, qb, qr⟩ := HED2.out (.slice va3 (Y.L.length + 1) vc3) _ HK4.out
            rw [show k + 1 + (Y.L.length - k) = Y.L.length + 1 by have := HKL.out; omega]
            go_quiet (fail)
            go_wp2
            (try simp only [Exit.inBlock, Exit.then])
            refine bodyPost_ret (results_tmp4 rfl _ _ _) rfl ?_
            exact HFX.out _ ((Keeps.refl _ _).drewN _)
theorem rcjoin_any (h : RCAt w F cb C Y v) (s : ByteArray) (m now : Int) (tv : Value) (topics : List ByteArray) {n : Nat} (ok : ∀ g, aget C.gs s = some g → Ok (n + 1) g) (hl : C.gs.length ≤ 20) (hsr : (1 ≤ C.s ∧ C.s ≤ 100000) ∧ 1 ≤ C.r ∧ C.r ≤ 100000) (htl : topics.length ≤ 1000)
    (hm : -9223372036854775808 ≤ m ∧ m ≤ 9223372036854775807) (ht : Out 1 rStr w (fun k => ¬ F k) tv topics) :
    Calls Tryz.prog 26 #[.pointer (some ⟨cb, 0, none⟩), .string s, .int .i64 m, tv, .int .i64 now] w (RCJoinP w F cb C s m topics now) := by
  have hlen : C.gs.length = Y.L.length := by rw [← h.core]; simp [gcore]
  by_cases hs : s.size = 0 ∨ 100 < s.size
  · obtain ⟨ta, tc, rfl, _, _⟩ := ht
    exact rcjoin_bad h s m now ta _ tc topics hs
  · have hs2 : 1 ≤ s.size ∧ s.size ≤ 100 := by omega
    cases hg : aget Y.L s with
    | none =>
      have hA : aget C.gs s = none := (h.agetL s).trans (by rw [hg]; rfl)
      have hb : cbase C s = newG C.s C.r := by unfold cbase; rw [hA]; rfl
      by_cases hf : 20 ≤ C.gs.length
      · have h1 : cjoinE C s m topics now = 5 := by unfold cjoinE; rw [if_neg hs, if_pos ⟨by rw [hA]; rfl, hf⟩]
        obtain ⟨ta, tc, rfl, _, _⟩ := ht
        exact rcjoin_full h s m now ta _ tc topics hs2 hg (by omega) h1
      · have h1 : cjoinE C s m topics now = joinE (newG C.s C.r) m topics now := by unfold cjoinE; rw [if_neg hs, if_neg (fun e => hf e.2), hb]
        by_cases hj : joinE (newG C.s C.r) m topics now = 0
        · exact rcjoin_new h s m now tv topics hs2 hg (by omega) hsr htl hm ht h1 hb hj
        · exact rcjoin_new_err h s m now tv topics hs2 hg (by omega) hsr htl hm ht h1 hj
    | some p =>
      obtain ⟨b, g⟩ := p
      have hA : aget C.gs s = some g := (h.agetL s).trans (by rw [hg]; rfl)
      have hb : cbase C s = g := by unfold cbase; rw [hA]; rfl
      have h1 : cjoinE C s m topics now = joinE g m topics now := by unfold cjoinE; rw [if_neg hs, if_neg (fun e => by rw [hA] at e; cases e.1), hb]
      exact rcjoin_found h s m now tv topics hs2 hg (ok g hA) htl hm ht h1 hb
end
end Go.Proofs.YtklhlffdpojkoaaGreat
