/-
  What a group of n that join one by one, and leave one by one, is: for the law of nobody's commits.
-/
import Derived.Test.YtklhlffdpojkoaaGreatJ22
import Derived.Test.YtklhlffdpojkoaaGreatJ23
namespace Go.Proofs.YtklhlffdpojkoaaGreat
open Go.RowKit Go.Shelf Fx

def gA : Nat → GroupC
  | 0 => newG 100 100
  | i + 1 => joinG (gA i) (-1) [] 1
def lA (n : Nat) : Nat → GroupC
  | 0 => gA n
  | k + 1 => leaveG (lA n k) k 2
def fac1 (i : Nat) : Bool := decide (joinE (gA i) (-1) [] 1 = 0) && decide (nextM (gA i) (-1) = i) && decide ((gA (i + 1)).phase ≠ 0)
def fac2 (n k : Nat) : Bool := decide (leaveE (lA n k) k 2 = 0) && decide ((lA n k).phase ≠ 0)
def fac3 (n : Nat) : Bool := decide ((lA n n).phase = 0)
theorem fac1_all : (List.range 10).all fac1 = true := by kernel_rfl
theorem fac2_all : ((List.range 11).all fun n => (List.range n).all fun k => fac2 n k) = true := by kernel_rfl
theorem fac3_all : (List.range 11).all fac3 = true := by kernel_rfl
theorem gA_join {i : Nat} (h : i < 10) : joinE (gA i) (-1) [] 1 = 0 ∧ nextM (gA i) (-1) = i ∧ (gA (i + 1)).phase ≠ 0 := by
  have := List.all_eq_true.1 fac1_all i (List.mem_range.2 h)
  unfold fac1 at this
  simp only [Bool.and_eq_true, decide_eq_true_eq] at this
  exact ⟨this.1.1, this.1.2, this.2⟩
theorem lA_leave {n k : Nat} (h : n < 11) (hk : k < n) : leaveE (lA n k) k 2 = 0 ∧ (lA n k).phase ≠ 0 := by
  have := List.all_eq_true.1 (List.all_eq_true.1 fac2_all n (List.mem_range.2 h)) k (List.mem_range.2 hk)
  unfold fac2 at this
  simp only [Bool.and_eq_true, decide_eq_true_eq] at this
  exact this
theorem lA_end {n : Nat} (h : n < 11) : (lA n n).phase = 0 := by
  have := List.all_eq_true.1 fac3_all n (List.mem_range.2 h)
  unfold fac3 at this
  simpa using this
theorem gA_ok : ∀ i, i ≤ 10 → Ok (1000 - i) (gA i)
  | 0, _ => Ok.new (by omega) (by omega)
  | i + 1, h => by
    have := gA_ok i (by omega)
    exact (this.le (m := 1000 - (i + 1) + 1) (by omega)).join (by omega) (by simp) (gA_join (by omega)).1
theorem lA_ok {n : Nat} (hn : n ≤ 10) : ∀ k, k ≤ n → Ok (900 - k) (lA n k)
  | 0, _ => (gA_ok n hn).le (by omega)
  | k + 1, h => by
    have := lA_ok hn k (by omega)
    exact (this.le (m := 900 - (k + 1) + 1) (by omega)).leave _ _
def gn : ByteArray := ⟨#[103]⟩
/-- A coordinator with one group. -/
def oneC (g : GroupC) : CoordC := ⟨100, 100, [(gn, g)], ⟨1000, []⟩⟩
theorem oneC_get (g : GroupC) : aget (oneC g).gs gn = some g := by simp [oneC, aget]
theorem oneC_put (g g' : GroupC) : (⟨(oneC g).s, (oneC g).r, aput (oneC g).gs gn g', (oneC g).off⟩ : CoordC) = oneC g' := by simp [oneC, aput]
theorem oneC_ok {n : Nat} {g : GroupC} (h : Ok n g) : COk n (oneC g) := fun s x e => by
  simp only [oneC, aget] at e
  split at e
  · cases e; exact h
  · cases e
theorem oneC_may {g : GroupC} (h : g.phase ≠ 0) : cmayE (oneC g) gn (-1) (-1) = 11 := by
  simp [cmayE, oneC_get, h]
theorem oneC_empty {g : GroupC} (h : g.phase = 0) : cmayE (oneC g) gn (-1) (-1) = 0 := by
  simp [cmayE, oneC_get, h]
theorem oneC_leaveE (g : GroupC) (m now : Int) : cleaveE (oneC g) gn m now = leaveE g m now := by simp [cleaveE, oneC_get]
theorem oneC_leave (g : GroupC) (m now : Int) : cleaveC (oneC g) gn m now = oneC (leaveG g m now) := by
  unfold cleaveC
  rw [oneC_get]
  exact oneC_put _ _
end Go.Proofs.YtklhlffdpojkoaaGreat

/-
  The few answers that each law of the package coord asks for itself.
-/
namespace Go.Proofs.YtklhlffdpojkoaaGreat
open Go.RowKit Go.Shelf Fx

theorem cst_new_join {w0 w : World} {cb : Nat} {C : CoordC} (h : CSt w0 w cb C) (s : ByteArray) (m now : Int) (tv : Value) (topics : List ByteArray) (h1 : s.toList.isEmpty = false) (h2 : ¬ 100 < (s.size : Int)) (e : aget C.gs s = none) (hf : C.gs.length < 20)
    (hsr : (1 ≤ C.s ∧ C.s ≤ 100000) ∧ 1 ≤ C.r ∧ C.r ≤ 100000) (htl : topics.length ≤ 1000) (hm : -9223372036854775808 ≤ m ∧ m ≤ 9223372036854775807) (ht : Out 1 rStr w (fun _ => True) tv topics) (hj : joinE (newG C.s C.r) m topics now = 0) :
    Calls Tryz.prog 12 #[.pointer (some ⟨cb, 0, none⟩), .string s, .int .i64 m, tv, .int .i64 now] w fun e w' => CJoined w0 cb C s (newG C.s C.r) (joinG (newG C.s C.r) m topics now) m e w' := by
  obtain ⟨Y, h⟩ := h
  exact cjoin_new h s m now tv topics h1 h2 (h.none e) hf hsr htl hm ht hj
theorem cst_found_nil {w0 w : World} {cb : Nat} {C : CoordC} (h : CSt w0 w cb C) (s : ByteArray) (m now : Int) (h1 : s.toList.isEmpty = false) (h2 : ¬ 100 < (s.size : Int)) {g : GroupC} (e : aget C.gs s = some g) {n : Nat} (ok : Ok (n + 1) g)
    (hm : -9223372036854775808 ≤ m ∧ m ≤ 9223372036854775807) (hj : joinE g m [] now = 0) :
    Calls Tryz.prog 12 #[.pointer (some ⟨cb, 0, none⟩), .string s, .int .i64 m, .slice none 0 0, .int .i64 now] w fun e w' => CJoined w0 cb C s g (joinG g m [] now) m e w' := by
  obtain ⟨Y, h⟩ := h
  obtain ⟨b, hb⟩ := h.some e
  exact cjoin_found h s m now _ [] h1 h2 hb ok (by simp) hm (Out.nil _ _ _ _) hj
theorem cst_may {w0 w : World} {cb : Nat} {C : CoordC} (h : CSt w0 w cb C) (s : ByteArray) (m gn : Int) {n : Nat} (ok : COk n C) (hm : -9223372036854775808 ≤ m ∧ m ≤ 9223372036854775807) :
    Calls Tryz.prog 18 #[.pointer (some ⟨cb, 0, none⟩), .string s, .int .i64 m, .int .i64 gn] w fun e w' => Same w e (.int .i64 (cmayE C s m gn)) w' := by
  obtain ⟨Y, h⟩ := h
  exact may_at h s m gn ok hm
def mT : ByteArray := ⟨#[116]⟩
theorem mT_le : mT.size ≤ maxLen := by unfold maxLen; decide
def lg : GroupC := joinG (newG 10 20) (-1) [mT] 1
def lC : CoordC := ⟨10, 20, [(gn, lg)], ⟨1000, []⟩⟩
def lC2 : CoordC := ⟨10, 20, [(gn, lg)], commitC ⟨1000, []⟩ ⟨gn, mT, 0⟩ 7⟩
theorem lg_e : joinE (newG 10 20) (-1) [mT] 1 = 0 := by kernel_rfl
theorem lg_m : nextM (newG 10 20) (-1) = 0 := by kernel_rfl
theorem lg_g : lg.gen = 1 := by kernel_rfl
theorem lg_f : firstM lg.ones = 0 := by kernel_rfl
theorem lg_p : lg.phase = 2 := by kernel_rfl
theorem lC_get : aget lC.gs gn = some lg := by kernel_rfl
theorem lC2_get : aget lC2.gs gn = some lg := by kernel_rfl
theorem lC_may1 : cmayE lC gn 0 1 = 0 := by kernel_rfl
theorem lC_may2 : cmayE lC gn (-1) (-1) = 11 := by kernel_rfl
theorem lC_may3 : cmayE lC ⟨#[104]⟩ (-1) (-1) = 0 := by kernel_rfl
theorem lC_com : commitE lC.off ⟨gn, mT, 0⟩ 7 = 0 := by kernel_rfl
theorem lC_val : getV lC2.off ⟨gn, mT, 0⟩ = (7, true) := by kernel_rfl
theorem lC_join : (⟨(newC 10 20).s, (newC 10 20).r, aput (newC 10 20).gs gn lg, (newC 10 20).off⟩ : CoordC) = lC := rfl
theorem lg_ok : Ok 900 lg := ((Ok.new (s := 10) (r := 20) (by omega) (by omega)).le (m := 901) (by omega)).join (by omega) (by simp) lg_e
theorem lC_ok : COk 900 lC := fun s x e => by
  simp only [lC, aget] at e
  split at e
  · cases e; exact lg_ok
  · cases e
theorem lC2_ok : COk 900 lC2 := fun s x e => by
  simp only [lC2, aget] at e
  split at e
  · cases e; exact lg_ok
  · cases e
theorem joined_eq (w : World) : (Op.equal 41 (.agg #[.int .i64 0, .int .i64 1, .int .i64 0]) (.agg #[.int .i64 0, .int .i64 1, .int .i64 0])).run Tryz.prog w = .ok true w := by kernel_rfl
set_option maxRecDepth 100000 in
set_option maxHeartbeats 2000000 in
theorem clive_any (w : World) : Calls Tryz.prog 7 #[] w fun e w' => Same w e (.bool true) w' := by
  have H0 := Lib.hid (cnew_any 10 20 w (by omega) (by omega))
  have HB := Lib.hid (fun (x : World) => cnew_bad 0 0 x (.inl (by omega)))
  have vf0 := view_field0
  have jeq := joined_eq
  go_enter Tryz.func7, Tryz.ntmps7
  go_wp2_with fail
  refine H0.out.mono ?_
  rintro e w1 ⟨cb, rfl, h1⟩
  go_wp2_with fail
  refine (HB.out w1).mono ?_
  rintro e w2 ⟨rfl, k2⟩
  have h2 : CSt w (w2.alloc (.cells #[.string mT] 9)) cb (newC 10 20) := (h1.keep k2).keep ((Keeps.refl (fun _ => False) _).alloc _)
  have J1 := cst_new_join h2 gn (-1) 1 (.slice (some ⟨w2.heap.size, 0, none⟩) 1 1) [mT] (by kernel_rfl) (by decide) rfl (by simp [newC]) ⟨by simp [newC], by simp [newC]⟩ (by simp) (by omega) (out_str (heap_new _ _ _ rfl) mT_le trivial) lg_e
  have J1 := Lib.hid J1
  clear h1 h2 k2
  go_wp2_with fail
  refine J1.out.mono ?_
  rintro e w3 ⟨rfl, h3⟩
  have h3 : CSt w w3 cb lC := h3
  rw [show nextM (newG (newC 10 20).s (newC 10 20).r) (-1) = 0 from lg_m, show (joinG (newG (newC 10 20).s (newC 10 20).r) (-1) [mT] 1).gen = 1 from lg_g, show firstM (joinG (newG (newC 10 20).s (newC 10 20).r) (-1) [mT] 1).ones = 0 from lg_f]
  obtain ⟨Y, h3⟩ := h3
  have HNE : Hid (w3.heap.size ≠ Y.ob) := fun e => by have := h3.off.map.lt; omega
  have h4 := h3.keep ((Keeps.refl (fun _ => False) w3).alloc (.cells #[.int .i64 0, .int .i64 1, .int .i64 0] 41))
  have HB4 : Hid ((w3.alloc (.cells #[.int .i64 0, .int .i64 1, .int .i64 0] 41)).heap[w3.heap.size]? = some (.cells #[.int .i64 0, .int .i64 1, .int .i64 0] 41)) := heap_new _ _ _ rfl
  have M1 := Lib.hid (may_at h4 gn 0 1 lC_ok (by omega))
  have H4 := Lib.hid h4
  clear h3 h4
  go_wp2_with fail
  refine M1.out.mono ?_
  rintro e w4 ⟨rfl, k4⟩
  rw [lC_may1]
  have h5 := H4.out.keep k4
  have M2 := Lib.hid (may_at h5 gn (-1) (-1) lC_ok (by omega))
  have K4 := Lib.hid k4
  have H5 := Lib.hid h5
  clear k4 h5
  go_wp2_with fail
  refine M2.out.mono ?_
  rintro e w5 ⟨rfl, k5⟩
  rw [lC_may2]
  have h6 := H5.out.keep k5
  have M3 := Lib.hid (may_at h6 ⟨#[104]⟩ (-1) (-1) lC_ok (by omega))
  have K5 := Lib.hid (K0.tr K4.out k5)
  have H6 := Lib.hid h6
  clear k5 h6
  go_wp2_with fail
  refine M3.out.mono ?_
  rintro e w6 ⟨rfl, k6⟩
  rw [lC_may3]
  have h7 := H6.out.keep k6
  have hk6 := K0.tr K5.out k6
  have HB6 : Hid (w6.heap[w3.heap.size]? = some (.cells #[.int .i64 0, .int .i64 1, .int .i64 0] 41)) := (hk6.block _ (block_lt HB4.out) (fun e => e)).trans HB4.out
  have N1 := Lib.hid (ccommit_at h7 gn mT 0 7)
  clear k6 hk6 h7
  go_wp2_with fail
  refine N1.out.mono ?_
  rintro e w7 ⟨rfl, h8, k8⟩
  rw [lC_com]
  have h8 : CAt w w7 cb lC2 Y := h8
  have HB7 : Hid (w7.heap[w3.heap.size]? = some (.cells #[.int .i64 0, .int .i64 1, .int .i64 0] 41)) := (k8.block _ (block_lt HB6.out) HNE.out).trans HB6.out
  have N2 := cget_at h8 gn mT 0
  rw [lC_val] at N2
  have N2 := Lib.hid N2
  have H8 := Lib.hid h8
  clear h8 k8
  go_wp2_with fail
  refine N2.out.mono ?_
  rintro e w8 ⟨rfl, k9⟩
  have h9 := H8.out.keep k9
  have b9 : w8.heap[w3.heap.size]? = some (.cells #[.int .i64 0, .int .i64 1, .int .i64 0] 41) := (k9.block _ (block_lt HB7.out) (fun e => e)).trans HB7.out
  have q0 := block_cell b9 0
  have q1 := block_cell b9 1
  have q2 := block_cell b9 2
  have hlt9 := block_lt b9
  have G1 := Lib.hid (cgroup_some h9 gn lC2_ok lC2_get)
  have H9 := Lib.hid h9.k0
  have HP := lg_p
  clear k9 h9 b9
  go_wp2_with fail
  refine G1.out.mono ?_
  rintro e w9 ⟨a, c, rfl, _, k10⟩
  rw [HP]
  have HF := Lib.hid (K0.tr H9.out k10)
  clear k10
  go_wp2
  go_ret
  exact ⟨rfl, HF.out⟩
end Go.Proofs.YtklhlffdpojkoaaGreat
