/-
  The document's disk: a file laid in its place.
-/
import Derived.Test.YtjfblcmpdcbpgaaEe
import Derived.Test.YtjfblcmpdcbpgaaAz
namespace Go.Proofs.Ytjfblcmpdcbpgaa
open Go.RowKit Fx

/-- Where a name's place is. -/
structure PlaceAt (l : List (ByteArray × FileC)) (s : ByteArray) (k : Nat) : Prop where
  le : k ≤ l.length
  low : ∀ j (hj : j < l.length), j < k → bltB l[j].1 s = true
  high : ∀ h : k < l.length, bltB l[k].1 s = false
theorem place_take {l : List (ByteArray × FileC)} {s : ByteArray} : ∀ {k : Nat}, PlaceAt l s k → l.takeWhile (fun p => bltB p.1 s) = l.take k ∧ l.dropWhile (fun p => bltB p.1 s) = l.drop k := by
  induction l with
  | nil => intro k h; simp
  | cons p l ih =>
    intro k h
    cases k with
    | zero =>
      have h1 := h.high (Nat.zero_lt_succ _)
      have h2 : bltB p.1 s = false := h1
      simp [List.takeWhile_cons, List.dropWhile_cons, h2]
    | succ k =>
      have h1 : bltB p.1 s = true := h.low 0 (Nat.zero_lt_succ _) (Nat.zero_lt_succ _)
      have h2 : PlaceAt l s k := ⟨by have := h.le; simp at this; omega, fun j hj hk => h.low (j + 1) (by simp; omega) (by omega), fun hk => h.high (by simp; omega)⟩
      obtain ⟨e1, e2⟩ := ih h2
      simp [List.takeWhile_cons, List.dropWhile_cons, h1, e1, e2]
theorem place_ins {l : List (ByteArray × FileC)} {s : ByteArray} {k : Nat} (h : PlaceAt l s k) (x : FileC) : insS l s x = l.take k ++ (s, x) :: l.drop k := by
  obtain ⟨e1, e2⟩ := place_take h
  unfold insS
  rw [e1, e2]
theorem ins_len (l : List (ByteArray × FileC)) (s : ByteArray) (x : FileC) : (insS l s x).length = l.length + 1 := by
  unfold insS
  rw [List.length_append, List.length_cons]
  have := congrArg List.length (List.takeWhile_append_dropWhile (p := fun p : ByteArray × FileC => bltB p.1 s) (l := l))
  rw [List.length_append] at this
  omega
theorem RAt.placed {w w2 : World} {F : Nat → Prop} {b : Nat} {R : DiskC} {v : Value} {s : ByteArray} {x : FileC} {k n vc : Nat} {va : Option Addr} (u : Int) (h : RAt w F b R v) (hp : PlaceAt R.files s k) (hk : K0 w w2) (hn : n = R.files.length + 1)
    (hrow : w2.ownsRow w.heap.size 76 3 (.slice va n vc) n ((R.files.take k).flatMap fenc ++ fenc (s, x) ++ (R.files.drop k).flatMap fenc)) : RPost w F b ⟨R.room, u, R.fuse, insS R.files s x⟩ (w2.setCell ⟨b, 1, none⟩ (.slice va n vc)) := by
  exact h.newrow (l := insS R.files s x) hk (by
    rw [ins_len, ← hn, place_ins hp, List.flatMap_append, List.flatMap_cons, ← List.append_assoc]
    exact hrow) u
theorem grown1 {w w1 : World} (hg : w.grownBy w1 none) : K0 w w1 := (Keeps.refl (fun _ => False) w).grown hg (fun k e => by cases e)
theorem drewN_size (w : World) (n : Nat) : (w.drewN n).heap.size = w.heap.size := rfl
/-- What of the disk and of a file that came in is so in all later worlds. -/
structure PutF (w wq : World) (b bf r : Nat) (v : Value) (s : ByteArray) (x : FileC) (l : List (ByteArray × FileC)) (k : Nat) : Prop where
  k0 : K0 w wq
  c1 : wq.cell? ⟨b, 1, none⟩ = some v
  lt : b < wq.heap.size
  fr : wq.frozen? ⟨b, 1, none⟩ = false
  e0 : wq.cell? ⟨bf, 0, none⟩ = some (.string s)
  e1 : wq.cell? ⟨bf, 1, none⟩ = some (.string x.bytes)
  e2 : wq.cell? ⟨bf, 2, none⟩ = some (.int .i64 x.safe)
  elt : bf < wq.heap.size
  n1 : ∀ j u, ((l.take k).flatMap fenc)[j]? = some u → wq.cell? ((⟨r, 0, none⟩ : Addr).add j) = some u
  n2 : ∀ j u, ((l.drop k).flatMap fenc)[j]? = some u → wq.cell? ((⟨r, k * 3, none⟩ : Addr).add j) = some u
theorem PutF.keep {w wq wx : World} {b bf r : Nat} {v : Value} {s : ByteArray} {x : FileC} {l : List (ByteArray × FileC)} {k : Nat} (h : PutF w wq b bf r v s x l k) (hk : K0 wq wx) (hfr : wx.frozen? ⟨b, 1, none⟩ = false) : PutF w wx b bf r v s x l k :=
  ⟨K0.tr h.k0 hk, hk.cell' h.c1 (fun e => e), Nat.lt_of_lt_of_le h.lt hk.size, hfr, hk.cell' h.e0 (fun e => e), hk.cell' h.e1 (fun e => e), hk.cell' h.e2 (fun e => e), Nat.lt_of_lt_of_le h.elt hk.size, fun j u e => hk.cell' (h.n1 j u e) (fun e => e), fun j u e => hk.cell' (h.n2 j u e) (fun e => e)⟩
theorem RAt.putF {w wb wq : World} {F : Nat → Prop} {b bf r cap : Nat} {R : DiskC} {s : ByteArray} {x : FileC} {k : Nat} (h : RAt w F b R (.slice (some ⟨r, 0, none⟩) R.files.length cap)) (kb : K0 w wb) (hf : wb.heap[bf]? = some (.cells #[.string s, .string x.bytes, .int .i64 x.safe] 76 (0, 0))) (hk : K0 wb wq) :
    PutF w wq b bf r (.slice (some ⟨r, 0, none⟩) R.files.length cap) s x R.files k := by
  have h1 := h.keep (K0.tr kb hk) (fun _ _ e => e)
  have h2 := (hk.block bf (block_lt hf) (fun e => e)).trans hf
  have hcells : ∀ j u, (R.files.flatMap fenc)[j]? = some u → wq.cell? ⟨r, j, none⟩ = some u := fun j u hu => by
    have hj : j < (R.files.flatMap fenc).length := (List.getElem?_eq_some_iff.1 hu).1
    rw [h1.row.cellAt j (by rw [flat_len fenc 3 fenc_len] at hj; exact hj)]
    exact hu
  refine ⟨K0.tr kb hk, block_cell h1.blk 1, block_lt h1.blk, block_free h1.blk 1, block_cell h2 0, block_cell h2 1, block_cell h2 2, block_lt h2, fun j u hu => ?_, fun j u hu => ?_⟩
  · rw [flatN_take fenc 3 fenc_len, List.getElem?_take] at hu
    split at hu
    · rw [add_at, Nat.zero_add]; exact hcells j u hu
    · cases hu
  · rw [flatN_drop fenc 3 fenc_len, List.getElem?_drop] at hu
    rw [add_at]
    exact hcells _ u hu
/-- What is so of a disk without files in all later worlds. -/
structure NilF (w wx : World) (b : Nat) : Prop where
  k0 : K0 w wx
  c1 : wx.cell? ⟨b, 1, none⟩ = some (.slice none 0 0)
  lt : b < wx.heap.size
  fr : wx.frozen? ⟨b, 1, none⟩ = false
theorem RAt.nilF {w wx : World} {F : Nat → Prop} {b : Nat} {R : DiskC} (h : RAt w F b R (.slice none 0 0)) (hk : K0 w wx) : NilF w wx b :=
  have h1 := h.keep hk (fun _ _ e => e)
  ⟨hk, block_cell h1.blk 1, block_lt h1.blk, block_free h1.blk 1⟩
theorem PlaceAt.nil {l : List (ByteArray × FileC)} (h : l = []) (s : ByteArray) : PlaceAt l s 0 := by
  subst h
  exact ⟨Nat.le_refl _, fun j hj => absurd hj (Nat.not_lt_zero _), fun h => absurd h (Nat.not_lt_zero _)⟩
set_option maxRecDepth 100000 in
set_option maxHeartbeats 4000000 in
theorem rput_any (w : World) (F : Nat → Prop) (b : Nat) (R : DiskC) (u : Int) (s : ByteArray) (x : FileC) (h : RSt w F b R) (hl : R.files.length ≤ 1000) :
    Calls Try.prog 50 #[.pointer (some ⟨b, 0, none⟩), .agg #[.string s, .string x.bytes, .int .i64 x.safe]] w fun e w' => e = .returned (.tuple #[]) ∧ RPost w F b ⟨R.room, u, R.fuse, insS R.files s x⟩ w' := by
  obtain ⟨v, h⟩ := h
  have HH := Lib.hid h
  have HB : Hid ((w.alloc (.cells #[.string s, .string x.bytes, .int .i64 x.safe] 76)).heap[w.heap.size]? = some (.cells #[.string s, .string x.bytes, .int .i64 x.safe] 76 (0, 0))) := heap_new _ _ _ rfl
  have HKB : Hid (K0 w (w.alloc (.cells #[.string s, .string x.bytes, .int .i64 x.safe] 76))) := (Keeps.refl _ _).alloc _
  rcases h.form with ⟨hnil, rfl⟩ | ⟨r, cap, rfl, hrb, hrl, hcap, hFr⟩
  · have HN := Lib.hid hnil
    have HF : Hid (∀ wx, K0 w wx → NilF w wx b) := fun wx hk => HH.out.nilF hk
    clear h hnil
    go_enter Try.func50, Try.ntmps50
    go_wp2
    obtain ⟨bf, hbf⟩ : ∃ bf, bf = w.heap.size := ⟨_, rfl⟩
    rw [← hbf] at HB ⊢
    clear hbf
    generalize w.alloc _ = wb at HB HKB ⊢
    obtain ⟨_, hx, hb, hfz⟩ := HF.out wb HKB.out
    have e0 := block_cell HB.out 0
    have elt := block_lt HB.out
    refine wp_loop_once ?_
    go_wp2_with fail
    go_quiet (fail)
    have HKW := Lib.hid (HKB.out.drewN nq)
    clear e0 elt hx hb hfz
    obtain ⟨_, hx, hb, hfz⟩ := HF.out _ HKW.out
    have HBQ : Hid ((wb.drewN nq).heap[bf]? = some (.cells #[.string s, .string x.bytes, .int .i64 x.safe] 76 (0, 0))) := HB.out
    generalize wb.drewN nq = wq at HKW HBQ hx hb hfz ⊢
    have e0 := block_cell HBQ.out 0
    have e1 := block_cell HBQ.out 1
    have e2 := block_cell HBQ.out 2
    have elt := block_lt HBQ.out
    have HWQ : Hid (w.heap.size ≤ wq.heap.size) := HKW.out.size
    have hown0 : wq.ownsRow wq.heap.size 76 3 (.slice none 0 0) 0 [] := World.ownsRow_nil _ _ _ _
    go_wp2_with (at_builtin; first | (refine wpList_appZ rfl rfl Try.underlying46 infoFile rfl hown0 rfl ?_) | (refine wpList_app1 rfl rfl Try.underlying46 infoFile rfl (by decide) rfl (hown0.alloc _) rfl (heap_new _ _ _ rfl) rfl rfl ⟨by omega, by decide⟩ (by simp) ?_; intro g2 c2 w2 hA2; have hk2 : K0 w w2 := (K0.tr HKW.out ((Keeps.refl _ _).alloc _)).grown hA2.grown (fun k e => by cases e); have HK2 := Lib.hid hk2; have ho2 := hA2.own; obtain ⟨_, p1, p2, p3⟩ := HF.out w2 hk2; clear hk2 hA2 hx hb hfz e0 e1 e2 elt) | (refine wpList_appZ rfl rfl Try.underlying46 infoFile rfl ho2 rfl ?_; have HV3 := Lib.hid ho2; clear ho2))
    go_end0
    exact ⟨rfl, HH.out.placed u (PlaceAt.nil HN.out s) HK2.out (by rw [HN.out]; rfl) (by rw [HN.out]; exact own_base HV3.out HWQ.out)⟩
  · have hcm : cap ≤ 9223372036854775807 := by
      rcases h.row.2 with ⟨e, _⟩ | ⟨g1, cap1, cur, e, _, _, _, hc, _⟩
      · cases e
      · cases e; unfold maxLen at hc; omega
    clear h hrl
    go_enter Try.func50, Try.ntmps50
    go_wp2
    obtain ⟨bf, hbf⟩ : ∃ bf, bf = w.heap.size := ⟨_, rfl⟩
    rw [← hbf] at HB ⊢
    clear hbf
    generalize w.alloc _ = wb at HB HKB ⊢
    go_loopw [4] (fun i wr => ∃ k : Nat, i = .int .i64 k ∧ k ≤ R.files.length ∧ (∀ j (hj : j < R.files.length), j < k → bltB R.files[j].1 s = true) ∧ K0 wb wr) (fun i _ => R.files.length - (intOf i).toNat)
    case atStart => exact ⟨0, rfl, by omega, fun j _ h => absurd h (Nat.not_lt_zero _), Keeps.refl _ _⟩
    case round =>
      obtain ⟨k, rfl, hk, hq, hkr⟩ := hrel
      have HKR := Lib.hid hkr
      have HQ := Lib.hid hq
      have HAT := Lib.hid (HH.out.keep (K0.tr HKB.out hkr) (fun _ _ e => e))
      obtain ⟨_, hx, hb, _, e0, e1, e2, elt, _, _⟩ := HH.out.putF (k := k) HKB.out HB.out hkr
      clear hq hkr
      by_cases hlt : k < R.files.length
      · have c0 := (HAT.out.cell rfl k hlt).1
        have hrl := HAT.out.form
        have hrl : r < wr.heap.size := by
          rcases HAT.out.row.2 with ⟨e, _⟩ | ⟨g1, cap1, cur, e, _, hg, _⟩
          · cases e
          · cases e; exact block_lt hg
        have i0 : (0 : Int) ≤ k := by omega
        have i1 : (k : Int) < R.files.length := by omega
        cases hd : bltB R.files[k].1 s with
        | true =>
          have HD := Lib.hid hd
          have hd' : Op.bytesLess R.files[k].1.toList s.toList = true := hd
          generalize R.files[k].1 = x0 at c0 hd'
          have HLT := Lib.hid hlt
          clear hd
          go_wp2_with fail
          go_quiet (fail)
          go_wp2
          go_roundw
          case rel => exact ⟨k + 1, by go_num, HLT.out, fun j hj h2 => (Nat.lt_succ_iff_lt_or_eq.1 h2).elim (HQ.out j hj) fun e => by subst e; exact HD.out, HKR.out.drewN _⟩
          case measure => have := HLT.out; simp [intOf]; omega
        | false =>
          have HPL : Hid (PlaceAt R.files s k) := ⟨hk, HQ.out, fun _ => hd⟩
          have hd' : Op.bytesLess R.files[k].1.toList s.toList = false := hd
          generalize R.files[k].1 = x0 at c0 hd'
          clear hd
          have HPF := Lib.hid (HH.out.putF (k := k) HKB.out HB.out (HKR.out.drewN 0))
          go_wp2_with fail
          go_quiet (fail)
          clear e0 e1 e2 elt hx hb
          have HKW := Lib.hid (HKR.out.drewN nq)
          have hpf := HH.out.putF (k := k) HKB.out HB.out HKW.out
          obtain ⟨_, hx, hb, hfz, e0, e1, e2, elt, hn1, _⟩ := hpf
          generalize wr.drewN nq = wq at HKW hx hb hfz e0 e1 e2 elt hn1 ⊢
          have HF : Hid (∀ wx, K0 wq wx → PutF w wx b bf r (.slice (some ⟨r, 0, none⟩) R.files.length cap) s x R.files k) := fun wx hkx => HH.out.putF (k := k) HKB.out HB.out (K0.tr HKW.out hkx)
          have HWQ : Hid (w.heap.size ≤ wq.heap.size) := (K0.tr HKB.out HKW.out).size
          have hl1 : ((R.files.take k).flatMap fenc).length = k * 3 := by rw [flat_len fenc 3 fenc_len, List.length_take]; congr 1; omega
          have hl2 : ((R.files.drop k).flatMap fenc).length = (R.files.length - k) * 3 := by rw [flat_len fenc 3 fenc_len, List.length_drop]
          have hc1 : ∀ u ∈ (R.files.take k).flatMap fenc, u.oneCell' = true := fun u hu => by
            obtain ⟨y, hy, hu⟩ := List.mem_flatMap.1 hu
            exact fenc_one y u hu
          have hc2 : ∀ u ∈ (R.files.drop k).flatMap fenc, u.oneCell' = true := fun u hu => by
            obtain ⟨y, hy, hu⟩ := List.mem_flatMap.1 hu
            exact fenc_one y u hu
          have hown0 : wq.ownsRow wq.heap.size 76 3 (.slice none 0 0) 0 [] := World.ownsRow_nil _ _ _ _
          have k0 : (0 : Int) ≤ k := by omega
          have k1 : (k : Int) ≤ cap := by omega
          have k2 : (k : Int) ≤ R.files.length := by omega
          have k4 : (R.files.length : Int) ≤ cap := by omega
          have hce : ¬ cap = k := by omega
          go_wp2_with (at_builtin; first | (refine wpList_appN rfl rfl Try.underlying46 infoFile rfl (by decide) rfl hown0 rfl hl1 hn1 hc1 ⟨by omega, by decide⟩ (Nat.le_refl _) ?_; intro v1 w1 hv1 hg1; simp only [Nat.zero_add, List.nil_append] at hv1; obtain ⟨va1, vc1, rfl⟩ := own_slice hv1; have hk1 := grown1 hg1; have hz1 := hk1.size; obtain ⟨_, a1, a2, a3, a4, a5, a6, a7, _, _⟩ := HF.out w1 hk1; clear hx hb hfz e0 e1 e2 elt hn1) | (refine wpList_app1 rfl rfl Try.underlying46 infoFile rfl (by decide) rfl (hv1.alloc _) rfl (heap_new _ _ _ rfl) rfl rfl ⟨by omega, by decide⟩ (by simp; omega) ?_; intro g2 c2 w2 hA2; have hk2 : K0 wq w2 := (K0.tr hk1 ((Keeps.refl _ _).alloc _)).grown hA2.grown (fun k e hlt => absurd (hv1.lt k e).1 (by omega)); have hz2 := hk2.size; have ho2 := hA2.own; obtain ⟨_, p1, p2, p3, _, _, _, _, _, p4⟩ := HF.out w2 hk2; clear a1 a2 a3 a4 a5 a6 a7 hv1 hg1 hA2) | (refine wpList_appN rfl rfl Try.underlying46 infoFile rfl (by decide) rfl ho2 rfl hl2 p4 hc2 ⟨by omega, by decide⟩ hz2 ?_; intro v3 w3 hv3 hg3; obtain ⟨va3, vc3, rfl⟩ := own_slice hv3; have hk3 : K0 wq w3 := hk2.grown hg3 (fun k e hlt => absurd (ho2.lt k e).1 (by omega)); have HK3 := Lib.hid hk3; have HV3 := Lib.hid hv3; obtain ⟨_, r1, r2, r3, _, _, _, _, _, _⟩ := HF.out w3 hk3; clear p1 p2 p3 p4 hv3 hg3 ho2))
          go_end0
          exact ⟨rfl, HH.out.placed u HPL.out (K0.tr (K0.tr HKB.out HKW.out) HK3.out) (by omega) (own_base HV3.out HWQ.out)⟩
      · have HPL : Hid (PlaceAt R.files s k) := ⟨hk, HQ.out, fun h => absurd h hlt⟩
        have i1 : ¬ (k : Int) < R.files.length := by omega
        go_wp2_with fail
        go_quiet (fail)
        clear e0 e1 e2 elt hx hb
        have HKW := Lib.hid (HKR.out.drewN nq)
        have hpf := HH.out.putF (k := k) HKB.out HB.out HKW.out
        obtain ⟨_, hx, hb, hfz, e0, e1, e2, elt, hn1, _⟩ := hpf
        generalize wr.drewN nq = wq at HKW hx hb hfz e0 e1 e2 elt hn1 ⊢
        have HF : Hid (∀ wx, K0 wq wx → PutF w wx b bf r (.slice (some ⟨r, 0, none⟩) R.files.length cap) s x R.files k) := fun wx hkx => HH.out.putF (k := k) HKB.out HB.out (K0.tr HKW.out hkx)
        have HWQ : Hid (w.heap.size ≤ wq.heap.size) := (K0.tr HKB.out HKW.out).size
        have hl1 : ((R.files.take k).flatMap fenc).length = k * 3 := by rw [flat_len fenc 3 fenc_len, List.length_take]; congr 1; omega
        have hl2 : ((R.files.drop k).flatMap fenc).length = (R.files.length - k) * 3 := by rw [flat_len fenc 3 fenc_len, List.length_drop]
        have hc1 : ∀ u ∈ (R.files.take k).flatMap fenc, u.oneCell' = true := fun u hu => by
          obtain ⟨y, hy, hu⟩ := List.mem_flatMap.1 hu
          exact fenc_one y u hu
        have hc2 : ∀ u ∈ (R.files.drop k).flatMap fenc, u.oneCell' = true := fun u hu => by
          obtain ⟨y, hy, hu⟩ := List.mem_flatMap.1 hu
          exact fenc_one y u hu
        have hown0 : wq.ownsRow wq.heap.size 76 3 (.slice none 0 0) 0 [] := World.ownsRow_nil _ _ _ _
        have k0 : (0 : Int) ≤ k := by omega
        have k1 : (k : Int) ≤ cap := by omega
        have k2 : (k : Int) ≤ R.files.length := by omega
        have k4 : (R.files.length : Int) ≤ cap := by omega
        by_cases hce : cap = k
        · obtain rfl : k = R.files.length := by omega
          subst hce
          have hdn : (R.files.drop R.files.length).flatMap fenc = [] := by rw [List.drop_length]; rfl
          have HDN := Lib.hid hdn
          clear hdn k0 k1 k2 k4 hl2
          go_wp2_with (at_builtin; first | (refine wpList_appN rfl rfl Try.underlying46 infoFile rfl (by decide) rfl hown0 rfl hl1 hn1 hc1 ⟨by omega, by decide⟩ (Nat.le_refl _) ?_; intro v1 w1 hv1 hg1; simp only [Nat.zero_add, List.nil_append] at hv1; obtain ⟨va1, vc1, rfl⟩ := own_slice hv1; have hk1 := grown1 hg1; have hz1 := hk1.size; obtain ⟨_, a1, a2, a3, a4, a5, a6, a7, _, _⟩ := HF.out w1 hk1; clear hx hb hfz e0 e1 e2 elt hn1) | (refine wpList_app1 rfl rfl Try.underlying46 infoFile rfl (by decide) rfl (hv1.alloc _) rfl (heap_new _ _ _ rfl) rfl rfl ⟨by omega, by decide⟩ (by simp; omega) ?_; intro g2 c2 w2 hA2; have hk2 : K0 wq w2 := (K0.tr hk1 ((Keeps.refl _ _).alloc _)).grown hA2.grown (fun k e hlt => absurd (hv1.lt k e).1 (by omega)); have hz2 := hk2.size; have ho2 := hA2.own; obtain ⟨_, p1, p2, p3, _, _, _, _, _, p4⟩ := HF.out w2 hk2; clear a1 a2 a3 a4 a5 a6 a7 hv1 hg1 hA2) | (refine wpList_appZ rfl rfl Try.underlying46 infoFile rfl ho2 rfl ?_; have HV3 := Lib.hid ho2; have HK2 := Lib.hid hk2; clear ho2))
          go_end0
          exact ⟨rfl, HH.out.placed u HPL.out (K0.tr (K0.tr HKB.out HKW.out) HK2.out) (by omega) (by rw [HDN.out, List.append_nil]; exact own_base HV3.out HWQ.out)⟩
        · go_wp2_with (at_builtin; first | (refine wpList_appN rfl rfl Try.underlying46 infoFile rfl (by decide) rfl hown0 rfl hl1 hn1 hc1 ⟨by omega, by decide⟩ (Nat.le_refl _) ?_; intro v1 w1 hv1 hg1; simp only [Nat.zero_add, List.nil_append] at hv1; obtain ⟨va1, vc1, rfl⟩ := own_slice hv1; have hk1 := grown1 hg1; have hz1 := hk1.size; obtain ⟨_, a1, a2, a3, a4, a5, a6, a7, _, _⟩ := HF.out w1 hk1; clear hx hb hfz e0 e1 e2 elt hn1) | (refine wpList_app1 rfl rfl Try.underlying46 infoFile rfl (by decide) rfl (hv1.alloc _) rfl (heap_new _ _ _ rfl) rfl rfl ⟨by omega, by decide⟩ (by simp; omega) ?_; intro g2 c2 w2 hA2; have hk2 : K0 wq w2 := (K0.tr hk1 ((Keeps.refl _ _).alloc _)).grown hA2.grown (fun k e hlt => absurd (hv1.lt k e).1 (by omega)); have hz2 := hk2.size; have ho2 := hA2.own; obtain ⟨_, p1, p2, p3, _, _, _, _, _, p4⟩ := HF.out w2 hk2; clear a1 a2 a3 a4 a5 a6 a7 hv1 hg1 hA2) | (refine wpList_appN rfl rfl Try.underlying46 infoFile rfl (by decide) rfl ho2 rfl hl2 p4 hc2 ⟨by omega, by decide⟩ hz2 ?_; intro v3 w3 hv3 hg3; obtain ⟨va3, vc3, rfl⟩ := own_slice hv3; have hk3 : K0 wq w3 := hk2.grown hg3 (fun k e hlt => absurd (ho2.lt k e).1 (by omega)); have HK3 := Lib.hid hk3; have HV3 := Lib.hid hv3; obtain ⟨_, r1, r2, r3, _, _, _, _, _, _⟩ := HF.out w3 hk3; clear p1 p2 p3 p4 hv3 hg3 ho2))
          go_end0
          exact ⟨rfl, HH.out.placed u HPL.out (K0.tr (K0.tr HKB.out HKW.out) HK3.out) (by omega) (own_base HV3.out HWQ.out)⟩
end Go.Proofs.Ytjfblcmpdcbpgaa
