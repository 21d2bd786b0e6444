/-
  What Parse makes of a text, in plain Lean.
-/
import Derived.Test.YtbjpifipjcfhkaaJg
namespace Go.Proofs.Ytbjpifipjcfhkaa
open Go.RowKit Fx

theorem nuT_le {s : ByteArray} {a e : Int} (h : a ≤ s.size) : nuT s a e ≤ s.size := by
  unfold nuT
  split
  · by_cases hx : vgetE s a = 0
    · exact (vget_ok hx).2.2.1
    · rw [(vget_bad hx).2]; omega
  · exact h
theorem wE_zero {e : Int} {b : Bool} (h : wE e b = 0) : e = 0 ∧ b = true := by
  unfold wE at h
  split at h
  · rename_i he
    split at h
    · rename_i hb; exact ⟨he, hb⟩
    · cases h
  · rename_i he; exact absurd h he
theorem nuE_zero {s : ByteArray} {a e lo hi : Int} (h : nuE s a e lo hi = 0) : e = 0 ∧ vgetE s a = 0 ∧ lo ≤ vgetN s a ∧ vgetN s a ≤ hi ∧ nuN s a e = vgetN s a ∧ nuT s a e = vgetT s a := by
  unfold nuE at h
  split at h
  · rename_i he
    obtain ⟨h1, h2⟩ := wE_zero h
    simp only [Bool.and_eq_true, decide_eq_true_eq] at h2
    unfold nuN nuT
    rw [if_pos he, if_pos he]
    exact ⟨he, h1, h2.1, h2.2, rfl, rfl⟩
  · rename_i he; exact absurd h he
theorem tailN_put (pre rest : ByteArray) (n : Int) : tailN (pre ++ putB n ++ rest) pre.size = encU (zz n) ++ tailN rest 0 := by
  have h1 : (pre ++ putB n ++ rest).data.toList = pre.data.toList ++ ((putB n).data.toList ++ rest.data.toList) := by simp
  unfold tailN
  rw [h1, List.drop_left' (by rfl), List.map_append, List.drop_zero]
  congr 1
  unfold putB
  rw [bytesN_data, List.map_map]
  conv => rhs; rw [← List.map_id (encU (zz n))]
  refine List.map_congr_left fun b hb => ?_
  have := encU_bytes _ b hb
  simp only [Function.comp, id, Int.toNat_natCast]
  rw [UInt8.toNat_ofNat']
  omega
theorem putB_len (n : Int) : (putB n).size = (encU (zz n)).length := by
  have h := congrArg List.length (bytesN_data (encU (zz n)))
  rw [List.length_map] at h
  exact h
theorem get_at (pre rest : ByteArray) {n : Int} (h : -9223372036854775808 ≤ n ∧ n ≤ 9223372036854775807) :
    vgetE (pre ++ putB n ++ rest) pre.size = 0 ∧ vgetN (pre ++ putB n ++ rest) pre.size = n ∧ vgetT (pre ++ putB n ++ rest) pre.size = pre.size + (putB n).size := by
  have hb : ¬ ((pre.size : Int) < 0 ∨ ((pre ++ putB n ++ rest).size : Int) < pre.size) := by
    rw [ByteArray.size_append, ByteArray.size_append]
    omega
  obtain ⟨h1, h2, h3⟩ := dec_enc (zz_lt h) (tailN rest 0)
  unfold vgetE vgetN vgetT decT
  rw [if_neg hb, if_neg hb, if_neg hb, Int.toNat_natCast, tailN_put, if_pos h1, h3, dz_zz, putB_len, ← h2]
  exact ⟨h1, rfl, by push_cast; omega⟩
theorem get_put {s : ByteArray} {a : Int} (h : vgetE s a = 0) : s.extract a.toNat (vgetT s a).toNat = putB (vgetN s a) := by
  unfold vgetE at h
  split at h
  · cases h
  · rename_i hb
    unfold vgetT vgetN decT decN
    rw [if_neg hb, if_neg hb, if_pos h, if_pos h]
    obtain ⟨h1, h2, h3⟩ := decE_ok h
    have h4 := (put_again h1 h2).2 h3
    rw [Nat.mod_eq_of_lt (canon_value (tailN_byte s _) h1 h2 h3)] at h4
    rw [h4]
    congr 1
    omega
theorem ext_split {s : ByteArray} {a b c : Nat} (h1 : a ≤ b) (h2 : b ≤ c) (h3 : c ≤ s.size) : s.extract a c = s.extract a b ++ s.extract b c := by
  have h : (s.extract a c).data.toList = (s.extract a b ++ s.extract b c).data.toList := by
    simp only [ByteArray.data_extract, ByteArray.data_append, Array.toList_extract, Array.toList_append, List.extract_eq_take_drop]
    apply List.ext_getElem?
    intro i
    simp only [List.getElem?_append, List.getElem?_take, List.getElem?_drop, List.length_take, List.length_drop]
    have hs : s.data.toList.length = s.size := rfl
    by_cases hi : i < b - a
    · rw [if_pos (by omega), if_pos (by omega), if_pos hi]
    · by_cases hj : i < c - a
      · rw [if_pos hj, if_neg (by omega), if_pos (by omega)]
        congr 1
        omega
      · rw [if_neg hj]
        split
        · rfl
        · rw [if_neg (by omega)]
  cases hx : s.extract a c
  cases hy : s.extract a b ++ s.extract b c
  rw [hx, hy] at h
  exact congrArg ByteArray.mk (Array.toList_inj.1 h)
theorem ext_all (s : ByteArray) : s.extract 0 s.size = s := by simp
theorem wE_ne {e : Int} {b : Bool} (h : ¬ (e = 0 ∧ b = true)) : wE e b ≠ 0 := fun h2 => h (wE_zero h2)
-- the numbers of one batch
structure IH where
  a : Int
  e : Int
  h : HeardC
section
variable (s : ByteArray) (p : IH)
def i1N : Int := nuN s p.a p.e
def i1T : Int := nuT s p.a p.e
def i1E : Int := nuE s p.a p.e 0 1073741824
def i2N : Int := nuN s (i1T s p) (i1E s p)
def i2T : Int := nuT s (i1T s p) (i1E s p)
def i2E : Int := nuE s (i1T s p) (i1E s p) 0 1099511627776
def i3N : Int := nuN s (i2T s p) (i2E s p)
def i3T : Int := nuT s (i2T s p) (i2E s p)
def i3E : Int := nuE s (i2T s p) (i2E s p) 1 50
def iS : SentC := ⟨i1N s p, i2N s p, i3N s p⟩
def istep : IH := ⟨i3T s p, i3E s p, addH p.h (iS s p)⟩
end
def irun (s : ByteArray) : Nat → IH → IH
  | 0, p => p
  | k + 1, p => if p.e = 0 then irun s k (istep s p) else p
theorem irun_stop (s : ByteArray) (k : Nat) {p : IH} (h : p.e ≠ 0) : irun s k p = p := by
  cases k with
  | zero => rfl
  | succ k => rw [irun, if_neg h]
theorem irun_next (s : ByteArray) {n k : Nat} (hk : k < n) {p : IH} (h : p.e = 0) : irun s (n - k) p = irun s (n - (k + 1)) (istep s p) := by
  rw [show n - k = n - (k + 1) + 1 by omega, irun, if_pos h]
-- one producer
structure PI where
  a : Int
  e : Int
  id : Int
  l : List (Int × HeardC)
section
variable (s : ByteArray) (p : PI)
def o1N : Int := nuN s p.a p.e
def o1T : Int := nuT s p.a p.e
def o1E : Int := nuE s p.a p.e (p.id + 1) 1073741824
def o2N : Int := nuN s (o1T s p) (o1E s p)
def o2T : Int := nuT s (o1T s p) (o1E s p)
def o2E : Int := nuE s (o1T s p) (o1E s p) 0 32768
def o3N : Int := nuN s (o2T s p) (o2E s p)
def o3T : Int := nuT s (o2T s p) (o2E s p)
def o3E : Int := nuE s (o2T s p) (o2E s p) 1 5
def oBeg : IH := ⟨o3T s p, o3E s p, newHd (o2N s p)⟩
def oIn : IH := irun s (o3N s p).toNat (oBeg s p)
def ostep : PI := ⟨(oIn s p).a, (oIn s p).e, o1N s p, p.l ++ [(o1N s p, (oIn s p).h)]⟩
end
def orun (s : ByteArray) : Nat → PI → PI
  | 0, p => p
  | k + 1, p => if p.e = 0 then orun s k (ostep s p) else p
theorem orun_stop (s : ByteArray) (k : Nat) {p : PI} (h : p.e ≠ 0) : orun s k p = p := by
  cases k with
  | zero => rfl
  | succ k => rw [orun, if_neg h]
theorem orun_next (s : ByteArray) {n k : Nat} (hk : k < n) {p : PI} (h : p.e = 0) : orun s (n - k) p = orun s (n - (k + 1)) (ostep s p) := by
  rw [show n - k = n - (k + 1) + 1 by omega, orun, if_pos h]
-- the whole
def pzC (s : ByteArray) : Int := nuN s 0 0
def pz0 (s : ByteArray) : PI := ⟨nuT s 0 0, nuE s 0 0 0 10000, -1, []⟩
def pzF (s : ByteArray) : PI := orun s (pzC s).toNat (pz0 s)
def pzE (s : ByteArray) : Int := wE (pzF s).e (decide ((pzF s).a = s.size))
def mapI (l : List (Int × HeardC)) : List (Int × HeardC) := l.foldl (fun M p => aput M p.1 p.2) []
theorem mapI_app (l : List (Int × HeardC)) (p : Int × HeardC) : mapI (l ++ [p]) = aput (mapI l) p.1 p.2 := by simp [mapI]
theorem mapI_keys (l : List (Int × HeardC)) (h : SortI l) : mapI l = l := by
  suffices hh : ∀ (m acc : List (Int × HeardC)), KD (acc ++ m) → m.foldl (fun M p => aput M p.1 p.2) acc = acc ++ m by
    have := hh l [] (by rw [List.nil_append]; exact h.kd)
    rw [List.nil_append] at this
    exact this
  intro m
  induction m with
  | nil => intro acc _; simp
  | cons p m ih =>
    intro acc hn
    have hp : aget acc p.1 = none := aget_out (fun e => by
      unfold KD at hn
      rw [List.map_append, List.map_cons] at hn
      exact (List.nodup_append.1 hn).2.2 p.1 e p.1 List.mem_cons_self rfl)
    rw [List.foldl_cons, aput_new hp, ih _ (by simpa using hn)]
    simp
-- what is printed
def sBy (x : SentC) : ByteArray := putB x.seq ++ putB x.base ++ putB x.span
def sentsL : List SentC → ByteArray
  | [] => ⟨#[]⟩
  | x :: ws => sBy x ++ sentsL ws
theorem bnil (a : ByteArray) : a ++ (⟨#[]⟩ : ByteArray) = a := ByteArray.append_empty
theorem nilb (a : ByteArray) : (⟨#[]⟩ : ByteArray) ++ a = a := ByteArray.empty_append
theorem sentsL_app (ws : List SentC) (x : SentC) : sentsL (ws ++ [x]) = sentsL ws ++ sBy x := by
  induction ws with
  | nil => show sBy x ++ ⟨#[]⟩ = ⟨#[]⟩ ++ sBy x; rw [bnil, nilb]
  | cons y ws ih => show sBy y ++ sentsL (ws ++ [x]) = sBy y ++ sentsL ws ++ sBy x; rw [ih, ByteArray.append_assoc]
def headI (p : Int × HeardC) : ByteArray := putB p.1 ++ putB p.2.epoch ++ putB (p.2.count : Int)
def oneI (p : Int × HeardC) : ByteArray := headI p ++ sentsL (winL p.2)
def onesL : List (Int × HeardC) → ByteArray
  | [] => ⟨#[]⟩
  | p :: l => oneI p ++ onesL l
theorem onesL_app (l : List (Int × HeardC)) (x : Int × HeardC) : onesL (l ++ [x]) = onesL l ++ oneI x := by
  induction l with
  | nil => show oneI x ++ ⟨#[]⟩ = ⟨#[]⟩ ++ oneI x; rw [bnil, nilb]
  | cons y l ih => show oneI y ++ onesL (l ++ [x]) = oneI y ++ onesL l ++ oneI x; rw [ih, ByteArray.append_assoc]
def printI (R : List (Int × HeardC)) : ByteArray := putB (R.length : Int) ++ onesL R
theorem oneI_core {p q : Int × HeardC} (h : coreI p = coreI q) : oneI p = oneI q := by
  unfold coreI at h
  simp only [Prod.mk.injEq] at h
  unfold oneI headI
  rw [h.1, h.2.1, h.2.2, ← winL_len p.2, ← winL_len q.2, h.2.2]
theorem onesL_core : ∀ {R R' : List (Int × HeardC)}, R.map coreI = R'.map coreI → onesL R = onesL R'
  | [], [], _ => rfl
  | [], _ :: _, h => by cases h
  | _ :: _, [], h => by cases h
  | p :: R, q :: R', h => by
    simp only [List.map_cons, List.cons.injEq] at h
    show oneI p ++ onesL R = oneI q ++ onesL R'
    rw [oneI_core h.1, onesL_core h.2]
theorem printI_core {R R' : List (Int × HeardC)} (h : R.map coreI = R'.map coreI) : printI R = printI R' := by
  have hl := congrArg List.length h
  rw [List.length_map, List.length_map] at hl
  unfold printI
  rw [onesL_core h, hl]
-- how long it is
theorem sB_size {x : SentC} (h : okS x) : (sBy x).size ≤ 30 := by
  obtain ⟨h1, h2, h3, h4, h5, h6⟩ := h
  have e1 := putB_size (n := x.seq) ⟨by omega, by omega⟩
  have e2 := putB_size (n := x.base) ⟨by omega, by omega⟩
  have e3 := putB_size (n := x.span) ⟨by omega, by omega⟩
  unfold sBy
  rw [ByteArray.size_append, ByteArray.size_append]
  omega
theorem sentsL_size : ∀ {ws : List SentC}, (∀ x ∈ ws, okS x) → (sentsL ws).size ≤ 30 * ws.length
  | [], _ => Nat.le_refl _
  | x :: ws, h => by
    have h1 := sB_size (h x List.mem_cons_self)
    have h2 := sentsL_size (ws := ws) fun y hy => h y (List.mem_cons_of_mem _ hy)
    show (sBy x ++ sentsL ws).size ≤ 30 * (ws.length + 1)
    rw [ByteArray.size_append]
    omega
theorem headI_size {p : Int × HeardC} (h0 : 0 ≤ p.1 ∧ p.1 ≤ 1073741824) (h : okH p.2) : (headI p).size ≤ 30 := by
  have hc := h.ok.c
  have he := h.ep
  have e1 := putB_size (n := p.1) ⟨by omega, by omega⟩
  have e2 := putB_size (n := p.2.epoch) ⟨by omega, by omega⟩
  have e3 := putB_size (n := (p.2.count : Int)) ⟨by omega, by omega⟩
  unfold headI
  rw [ByteArray.size_append, ByteArray.size_append]
  omega
theorem oneI_size {p : Int × HeardC} (h0 : 0 ≤ p.1 ∧ p.1 ≤ 1073741824) (h : okH p.2) : (oneI p).size ≤ 180 := by
  have hc := h.ok.c
  have h1 := headI_size h0 h
  have h2 := sentsL_size h.all
  rw [winL_len] at h2
  unfold oneI
  rw [ByteArray.size_append]
  omega
theorem onesL_size : ∀ {l : List (Int × HeardC)}, (∀ p ∈ l, (0 ≤ p.1 ∧ p.1 ≤ 1073741824) ∧ okH p.2) → (onesL l).size ≤ 180 * l.length
  | [], _ => Nat.le_refl _
  | x :: ws, h => by
    have h1 := oneI_size (h x List.mem_cons_self).1 (h x List.mem_cons_self).2
    have h2 := onesL_size (l := ws) fun y hy => h y (List.mem_cons_of_mem _ hy)
    show (oneI x ++ onesL ws).size ≤ 180 * (ws.length + 1)
    rw [ByteArray.size_append]
    omega
theorem WfR.mem {R : List (Int × HeardC)} (h : WfR R) (hk : KD R) : ∀ p ∈ R, (0 ≤ p.1 ∧ p.1 ≤ 1073741824) ∧ okH p.2 := fun p hp => by
  have := h.rng p.1 p.2 (aget_of_mem hk hp)
  exact ⟨⟨this.1, this.2.1⟩, this.2.2⟩
-- what is read prints the same
theorem pz0_zero {s : ByteArray} (h : (pz0 s).e = 0) : 0 ≤ pzC s ∧ pzC s ≤ 10000 := by
  have h : nuE s 0 0 0 10000 = 0 := h
  obtain ⟨_, _, g2, g3, g4, _⟩ := nuE_zero h
  unfold pzC
  rw [g4]
  exact ⟨g2, g3⟩
structure IInv (s : ByteArray) (acc : ByteArray) (ep : Int) (j : Nat) (p : IH) : Prop where
  lo : 0 ≤ p.a
  hi : p.a ≤ s.size
  pre : s.extract 0 p.a.toNat = acc ++ sentsL (winL p.h)
  ok : HOk p.h
  ep : p.h.epoch = ep
  cnt : p.h.count = j
  all : ∀ x ∈ winL p.h, okS x
theorem IInv.step {s acc : ByteArray} {ep : Int} {j : Nat} {p : IH} (h : IInv s acc ep j p) (hj : j < 5) (he : (istep s p).e = 0) : IInv s acc ep (j + 1) (istep s p) := by
  have h3 : i3E s p = 0 := he
  obtain ⟨e2, g3, a3, b3, n3, t3⟩ := nuE_zero h3
  obtain ⟨e1, g2, a2, b2, n2, t2⟩ := nuE_zero e2
  obtain ⟨e0, g1, a1, b1, n1, t1⟩ := nuE_zero e1
  have k1 := vget_ok g1
  have k2 := vget_ok g2
  have k3 := vget_ok g3
  have x1 := get_put g1
  have x2 := get_put g2
  have x3 := get_put g3
  have e1T : i1T s p = vgetT s p.a := t1
  have e2T : i2T s p = vgetT s (i1T s p) := t2
  have e3T : i3T s p = vgetT s (i2T s p) := t3
  have e1N : i1N s p = vgetN s p.a := n1
  have e2N : i2N s p = vgetN s (i1T s p) := n2
  have e3N : i3N s p = vgetN s (i2T s p) := n3
  rw [← e3T] at x3 k3
  rw [← e2T] at x2 k2
  rw [← e1T] at x1 k1
  rw [← e1N] at x1 a1 b1
  rw [← e2N] at x2 a2 b2
  rw [← e3N] at x3 a3 b3
  have hlo := h.lo
  have hok : okS (iS s p) := ⟨a1, b1, a2, b2, a3, b3⟩
  have hw : winL (addH p.h (iS s p)) = winL p.h ++ [iS s p] := by
    rw [winL_add h.ok, if_neg (by rw [winL_len, h.cnt]; omega)]
  refine ⟨?_, ?_, ?_, addH_ok h.ok _, h.ep, ?_, fun x hx => ?_⟩
  · show 0 ≤ i3T s p; omega
  · show i3T s p ≤ s.size; omega
  · show s.extract 0 (i3T s p).toNat = acc ++ sentsL (winL (addH p.h (iS s p)))
    rw [hw, sentsL_app, ← ByteArray.append_assoc, ← h.pre]
    rw [ext_split (a := 0) (b := p.a.toNat) (c := (i3T s p).toNat) (by omega) (by omega) (by omega)]
    rw [ext_split (a := p.a.toNat) (b := (i1T s p).toNat) (c := (i3T s p).toNat) (by omega) (by omega) (by omega)]
    rw [ext_split (a := (i1T s p).toNat) (b := (i2T s p).toNat) (c := (i3T s p).toNat) (by omega) (by omega) (by omega)]
    rw [x1, x2, x3]
    unfold sBy iS
    simp only [ByteArray.append_assoc]
  · have h4 := congrArg List.length hw
    rw [winL_len, List.length_append, winL_len, h.cnt] at h4
    exact h4
  · have hx : x ∈ winL (addH p.h (iS s p)) := hx
    rw [hw] at hx
    rcases List.mem_append.1 hx with hx | hx
    · exact h.all x hx
    · rw [List.mem_singleton.1 hx]; exact hok
theorem irun_inv {s acc : ByteArray} {ep : Int} : ∀ (k j : Nat) (p : IH), j + k ≤ 5 → (p.e = 0 → IInv s acc ep j p) → (irun s k p).e = 0 → IInv s acc ep (j + k) (irun s k p) ∧ p.e = 0
  | 0, j, p, _, h, he => ⟨h he, he⟩
  | k + 1, j, p, hj, h, he => by
    by_cases hp : p.e = 0
    · rw [irun, if_pos hp] at he ⊢
      obtain ⟨h1, _⟩ := irun_inv k (j + 1) (istep s p) (by omega) (fun h2 => (h hp).step (by omega) h2) he
      exact ⟨by rw [show j + (k + 1) = j + 1 + k by omega]; exact h1, hp⟩
    · rw [irun, if_neg hp] at he
      exact absurd he hp
structure OInv (s : ByteArray) (acc : ByteArray) (p : PI) : Prop where
  lo : 0 ≤ p.a
  hi : p.a ≤ s.size
  pre : s.extract 0 p.a.toNat = acc ++ onesL p.l
  ord : SortI p.l
  top : ∀ q ∈ p.l, q.1 ≤ p.id
  id : -1 ≤ p.id ∧ p.id ≤ 1073741824
  all : ∀ q ∈ p.l, (0 ≤ q.1 ∧ q.1 ≤ 1073741824) ∧ okH q.2
theorem OInv.step {s acc : ByteArray} {p : PI} (h : OInv s acc p) (he : (ostep s p).e = 0) : OInv s acc (ostep s p) := by
  have hin : (irun s (o3N s p).toNat (oBeg s p)).e = 0 := he
  have h3 : o3E s p = 0 := by
    by_cases h0 : o3E s p = 0
    · exact h0
    · rw [irun_stop s _ (p := oBeg s p) h0] at hin
      exact hin
  obtain ⟨e2, g3, a3, b3, n3, t3⟩ := nuE_zero h3
  obtain ⟨e1, g2, a2, b2, n2, t2⟩ := nuE_zero e2
  obtain ⟨e0, g1, a1, b1, n1, t1⟩ := nuE_zero e1
  have k1 := vget_ok g1
  have k2 := vget_ok g2
  have k3 := vget_ok g3
  have x1 := get_put g1
  have x2 := get_put g2
  have x3 := get_put g3
  have e1T : o1T s p = vgetT s p.a := t1
  have e2T : o2T s p = vgetT s (o1T s p) := t2
  have e3T : o3T s p = vgetT s (o2T s p) := t3
  have e1N : o1N s p = vgetN s p.a := n1
  have e2N : o2N s p = vgetN s (o1T s p) := n2
  have e3N : o3N s p = vgetN s (o2T s p) := n3
  rw [← e3T] at x3 k3
  rw [← e2T] at x2 k2
  rw [← e1T] at x1 k1
  rw [← e1N] at x1 a1 b1
  rw [← e2N] at x2 a2 b2
  rw [← e3N] at x3 a3 b3
  have hlo := h.lo
  have hid := h.id
  have hI0 : IInv s (acc ++ onesL p.l ++ (putB (o1N s p) ++ putB (o2N s p) ++ putB (o3N s p))) (o2N s p) 0 (oBeg s p) := by
    refine ⟨?_, ?_, ?_, newHd_ok _, rfl, rfl, fun x hx => by cases hx⟩
    · show 0 ≤ o3T s p; omega
    · show o3T s p ≤ s.size; omega
    · show s.extract 0 (o3T s p).toNat = acc ++ onesL p.l ++ (putB (o1N s p) ++ putB (o2N s p) ++ putB (o3N s p)) ++ ⟨#[]⟩
      rw [bnil, ← h.pre]
      rw [ext_split (a := 0) (b := p.a.toNat) (c := (o3T s p).toNat) (by omega) (by omega) (by omega)]
      rw [ext_split (a := p.a.toNat) (b := (o1T s p).toNat) (c := (o3T s p).toNat) (by omega) (by omega) (by omega)]
      rw [ext_split (a := (o1T s p).toNat) (b := (o2T s p).toNat) (c := (o3T s p).toNat) (by omega) (by omega) (by omega)]
      rw [x1, x2, x3]
      simp only [ByteArray.append_assoc]
  obtain ⟨hI, _⟩ := irun_inv (o3N s p).toNat 0 (oBeg s p) (by omega) (fun _ => hI0) hin
  have hI : IInv s (acc ++ onesL p.l ++ (putB (o1N s p) ++ putB (o2N s p) ++ putB (o3N s p))) (o2N s p) (0 + (o3N s p).toNat) (oIn s p) := hI
  have hep := hI.ep
  have hcn := hI.cnt
  have hok : okH (oIn s p).h := ⟨hI.ok, by rw [hep]; exact ⟨a2, b2⟩, by omega, hI.all⟩
  refine ⟨hI.lo, hI.hi, ?_, ?_, fun q hq => ?_, ⟨by show -1 ≤ o1N s p; omega, by show o1N s p ≤ _; omega⟩, fun q hq => ?_⟩
  · show s.extract 0 (oIn s p).a.toNat = acc ++ onesL (p.l ++ [(o1N s p, (oIn s p).h)])
    rw [hI.pre, onesL_app]
    unfold oneI headI
    show _ = acc ++ (onesL p.l ++ (putB (o1N s p) ++ putB (oIn s p).h.epoch ++ putB ((oIn s p).h.count : Int) ++ sentsL (winL (oIn s p).h)))
    rw [hep, hcn, show ((0 + (o3N s p).toNat : Nat) : Int) = o3N s p by omega]
    simp only [ByteArray.append_assoc]
  · show ((p.l ++ [(o1N s p, (oIn s p).h)]).map (·.1)).Pairwise (· < ·)
    rw [List.map_append]
    refine List.pairwise_append.2 ⟨h.ord, by simp, fun a ha b hb => ?_⟩
    simp only [List.map_cons, List.map_nil, List.mem_singleton] at hb
    subst hb
    obtain ⟨q, hq, rfl⟩ := List.mem_map.1 ha
    have := h.top q hq
    omega
  · have hq : q ∈ p.l ++ [(o1N s p, (oIn s p).h)] := hq
    show q.1 ≤ o1N s p
    rcases List.mem_append.1 hq with hq | hq
    · have := h.top q hq
      omega
    · rw [List.mem_singleton.1 hq]; exact Int.le_refl _
  · have hq : q ∈ p.l ++ [(o1N s p, (oIn s p).h)] := hq
    rcases List.mem_append.1 hq with hq | hq
    · exact h.all q hq
    · rw [List.mem_singleton.1 hq]
      exact ⟨⟨by show 0 ≤ o1N s p; omega, b1⟩, hok⟩
theorem orun_inv {s acc : ByteArray} : ∀ (j : Nat) (p : PI), (p.e = 0 → OInv s acc p) → (orun s j p).e = 0 → OInv s acc (orun s j p) ∧ (orun s j p).l.length = p.l.length + j ∧ p.e = 0
  | 0, p, h, he => ⟨h he, rfl, he⟩
  | j + 1, p, h, he => by
    by_cases hp : p.e = 0
    · rw [orun, if_pos hp] at he ⊢
      obtain ⟨h1, h2, _⟩ := orun_inv j (ostep s p) (fun h2 => (h hp).step h2) he
      refine ⟨h1, ?_, hp⟩
      rw [h2]
      show (p.l ++ [_]).length + j = _
      simp
      omega
    · rw [orun, if_neg hp] at he
      exact absurd he hp
theorem OInv.first {s : ByteArray} (h : (pz0 s).e = 0) : OInv s (putB (pzC s)) (pz0 s) := by
  have h : nuE s 0 0 0 10000 = 0 := h
  obtain ⟨_, g1, a1, b1, n1, t1⟩ := nuE_zero h
  have k1 := vget_ok g1
  have x1 := get_put g1
  have eA : (pz0 s).a = vgetT s 0 := t1
  have eC : pzC s = vgetN s 0 := n1
  rw [← eA] at x1 k1
  rw [← eC] at x1
  refine ⟨by omega, by omega, ?_, List.Pairwise.nil, (fun q hq => by cases hq), ⟨by show -1 ≤ -1; omega, by show -1 ≤ _; omega⟩, fun q hq => by cases hq⟩
  show _ = putB (pzC s) ++ ⟨#[]⟩
  rw [bnil]
  exact x1
/-- What a text that Parse takes is. -/
theorem parse_goodI {s : ByteArray} (h : pzE s = 0) : mapI (pzF s).l = (pzF s).l ∧ SortI (pzF s).l ∧ WfR (pzF s).l ∧ printI (pzF s).l = s ∧ (pzF s).l.length ≤ 10000 := by
  obtain ⟨hF, ha⟩ := wE_zero h
  simp only [decide_eq_true_eq] at ha
  obtain ⟨hI, hl, hp⟩ := orun_inv (s := s) (pzC s).toNat (pz0 s) OInv.first hF
  have hI : OInv s (putB (pzC s)) (pzF s) := hI
  have hl : (pzF s).l.length = 0 + (pzC s).toNat := hl
  obtain ⟨z1, z2⟩ := pz0_zero hp
  refine ⟨mapI_keys _ hI.ord, hI.ord, ⟨fun id H e => ?_⟩, ?_, by omega⟩
  · have := hI.all _ (aget_in e)
    exact ⟨this.1.1, this.1.2, this.2⟩
  · have hpre := hI.pre
    rw [ha, Int.toNat_natCast, ext_all] at hpre
    unfold printI
    rw [show ((pzF s).l.length : Int) = pzC s by omega, ← hpre]
-- what was printed is read
/-- A producer, its ring begun anew. -/
def anewH (H : HeardC) : HeardC := (winL H).foldl addH (newHd H.epoch)
theorem fold_add : ∀ (ws : List SentC) (H : HeardC), HOk H → H.count + ws.length ≤ 5 → HOk (ws.foldl addH H) ∧ winL (ws.foldl addH H) = winL H ++ ws ∧ (ws.foldl addH H).epoch = H.epoch
  | [], H, ok, _ => ⟨ok, by simp, rfl⟩
  | x :: ws, H, ok, hc => by
    simp only [List.length_cons] at hc
    have hw : winL (addH H x) = winL H ++ [x] := by rw [winL_add ok, if_neg (by rw [winL_len]; omega)]
    have hcn : (addH H x).count = H.count + 1 := by rw [← winL_len, hw, List.length_append, winL_len]; rfl
    obtain ⟨h1, h2, h3⟩ := fold_add ws (addH H x) (addH_ok ok x) (by omega)
    refine ⟨h1, ?_, h3⟩
    rw [List.foldl_cons, h2, hw, List.append_assoc]
    rfl
theorem anewH_all {H : HeardC} (ok : HOk H) : HOk (anewH H) ∧ winL (anewH H) = winL H ∧ (anewH H).epoch = H.epoch := by
  have h := fold_add (winL H) (newHd H.epoch) (newHd_ok _) (by rw [winL_len]; have := ok.c; show 0 + _ ≤ 5; omega)
  exact ⟨h.1, by unfold anewH; rw [h.2.1, winL_new]; rfl, h.2.2⟩
def anewP (p : Int × HeardC) : Int × HeardC := (p.1, anewH p.2)
theorem coreI_anew {p : Int × HeardC} (ok : HOk p.2) : coreI (anewP p) = coreI p := by
  obtain ⟨_, h2, h3⟩ := anewH_all ok
  unfold coreI anewP
  rw [h2, h3]
theorem read_one {s pre rest : ByteArray} {n lo hi : Int} (hs : s = pre ++ putB n ++ rest) (h1 : -9223372036854775808 ≤ n ∧ n ≤ 9223372036854775807) (h2 : lo ≤ n ∧ n ≤ hi) : nuN s pre.size 0 = n ∧ nuT s pre.size 0 = (pre ++ putB n).size ∧ nuE s pre.size 0 lo hi = 0 := by
  obtain ⟨g1, g2, g3⟩ := get_at pre rest h1
  rw [← hs] at g1 g2 g3
  unfold nuN nuT nuE wE
  rw [if_pos rfl, if_pos rfl, if_pos rfl, g1, g2, g3, decide_eq_true h2.1, decide_eq_true h2.2, ByteArray.size_append]
  exact ⟨rfl, by push_cast; rfl, rfl⟩
theorem irun_print : ∀ (ws : List SentC) {s : ByteArray} (pre rest : ByteArray) (H : HeardC), s = pre ++ sentsL ws ++ rest → (∀ x ∈ ws, okS x) → irun s ws.length ⟨pre.size, 0, H⟩ = ⟨(pre ++ sentsL ws).size, 0, ws.foldl addH H⟩
  | [], s, pre, rest, H, _, _ => by show (⟨_, _, _⟩ : IH) = ⟨((pre ++ (⟨#[]⟩ : ByteArray)).size : Nat), 0, H⟩; rw [bnil]
  | x :: ws, s, pre, rest, H, hs, hx => by
    obtain ⟨q1, q2, b1, b2, p1, p2⟩ := hx x List.mem_cons_self
    have hs1 : s = pre ++ putB x.seq ++ (putB x.base ++ putB x.span ++ sentsL ws ++ rest) := by rw [hs]; show pre ++ (sBy x ++ sentsL ws) ++ rest = _; unfold sBy; simp only [ByteArray.append_assoc]
    have hs2 : s = (pre ++ putB x.seq) ++ putB x.base ++ (putB x.span ++ sentsL ws ++ rest) := by rw [hs1]; simp only [ByteArray.append_assoc]
    have hs3 : s = (pre ++ putB x.seq ++ putB x.base) ++ putB x.span ++ (sentsL ws ++ rest) := by rw [hs1]; simp only [ByteArray.append_assoc]
    have hs4 : s = (pre ++ putB x.seq ++ putB x.base ++ putB x.span) ++ sentsL ws ++ rest := by rw [hs1]; simp only [ByteArray.append_assoc]
    obtain ⟨r1, r2, r3⟩ := read_one (lo := 0) (hi := 1073741824) hs1 ⟨by omega, by omega⟩ ⟨q1, q2⟩
    obtain ⟨u1, u2, u3⟩ := read_one (lo := 0) (hi := 1099511627776) hs2 ⟨by omega, by omega⟩ ⟨b1, b2⟩
    obtain ⟨v1, v2, v3⟩ := read_one (lo := 1) (hi := 50) hs3 ⟨by omega, by omega⟩ ⟨p1, p2⟩
    have hst : istep s ⟨pre.size, 0, H⟩ = ⟨(pre ++ putB x.seq ++ putB x.base ++ putB x.span).size, 0, addH H x⟩ := by
      unfold istep iS i3T i3E i3N i2T i2E i2N i1T i1E i1N
      dsimp only
      rw [r1, r2, r3, u1, u2, u3, v1, v2, v3]
    show irun s (ws.length + 1) _ = _
    rw [irun, if_pos rfl, hst, irun_print ws _ rest _ hs4 fun y hy => hx y (List.mem_cons_of_mem _ hy)]
    have he : pre ++ putB x.seq ++ putB x.base ++ putB x.span ++ sentsL ws = pre ++ sentsL (x :: ws) := by show _ = pre ++ (sBy x ++ sentsL ws); unfold sBy; simp only [ByteArray.append_assoc]
    rw [he]
    rfl
theorem orun_print : ∀ (R : List (Int × HeardC)) {s : ByteArray} (pre rest : ByteArray) (id : Int) (l : List (Int × HeardC)), s = pre ++ onesL R ++ rest → (∀ p ∈ R, (0 ≤ p.1 ∧ p.1 ≤ 1073741824) ∧ okH p.2) → SortI R → (∀ p ∈ R, id < p.1) →
    ∃ id', orun s R.length ⟨pre.size, 0, id, l⟩ = ⟨(pre ++ onesL R).size, 0, id', l ++ R.map anewP⟩
  | [], s, pre, rest, id, l, _, _, _, _ => ⟨id, by show (⟨_, _, _, _⟩ : PI) = ⟨((pre ++ (⟨#[]⟩ : ByteArray)).size : Nat), 0, id, l ++ []⟩; rw [bnil, List.append_nil]⟩
  | p :: R, s, pre, rest, id, l, hs, hx, ho, hlt => by
    obtain ⟨⟨i1, i2⟩, hk⟩ := hx p List.mem_cons_self
    have hid := hlt p List.mem_cons_self
    obtain ⟨e1, e2⟩ := hk.ep
    have hc1 := hk.cnt
    have hc2 := hk.ok.c
    have hs1 : s = pre ++ putB p.1 ++ (putB p.2.epoch ++ putB (p.2.count : Int) ++ sentsL (winL p.2) ++ onesL R ++ rest) := by rw [hs]; show pre ++ (oneI p ++ onesL R) ++ rest = _; unfold oneI headI; simp only [ByteArray.append_assoc]
    have hs2 : s = (pre ++ putB p.1) ++ putB p.2.epoch ++ (putB (p.2.count : Int) ++ sentsL (winL p.2) ++ onesL R ++ rest) := by rw [hs1]; simp only [ByteArray.append_assoc]
    have hs3 : s = (pre ++ putB p.1 ++ putB p.2.epoch) ++ putB (p.2.count : Int) ++ (sentsL (winL p.2) ++ onesL R ++ rest) := by rw [hs1]; simp only [ByteArray.append_assoc]
    have hs4 : s = (pre ++ putB p.1 ++ putB p.2.epoch ++ putB (p.2.count : Int)) ++ sentsL (winL p.2) ++ (onesL R ++ rest) := by rw [hs1]; simp only [ByteArray.append_assoc]
    have hs5 : s = (pre ++ putB p.1 ++ putB p.2.epoch ++ putB (p.2.count : Int) ++ sentsL (winL p.2)) ++ onesL R ++ rest := by rw [hs1]; simp only [ByteArray.append_assoc]
    obtain ⟨r1, r2, r3⟩ := read_one (lo := id + 1) (hi := 1073741824) hs1 ⟨by omega, by omega⟩ ⟨by omega, i2⟩
    obtain ⟨u1, u2, u3⟩ := read_one (lo := 0) (hi := 32768) hs2 ⟨by omega, by omega⟩ ⟨e1, e2⟩
    obtain ⟨v1, v2, v3⟩ := read_one (lo := 1) (hi := 5) hs3 ⟨by omega, by omega⟩ ⟨by omega, by omega⟩
    have hin : oIn s ⟨pre.size, 0, id, l⟩ = ⟨(pre ++ putB p.1 ++ putB p.2.epoch ++ putB (p.2.count : Int) ++ sentsL (winL p.2)).size, 0, anewH p.2⟩ := by
      unfold oIn oBeg o3T o3E o3N o2T o2E o2N o1T o1E
      dsimp only
      rw [r2, r3, u1, u2, u3, v1, v2, v3, Int.toNat_natCast]
      have := irun_print (winL p.2) _ (onesL R ++ rest) (newHd p.2.epoch) hs4 hk.all
      rw [winL_len] at this
      exact this
    have hst : ostep s ⟨pre.size, 0, id, l⟩ = ⟨(pre ++ putB p.1 ++ putB p.2.epoch ++ putB (p.2.count : Int) ++ sentsL (winL p.2)).size, 0, p.1, l ++ [anewP p]⟩ := by
      unfold ostep
      rw [hin]
      unfold o1N
      dsimp only
      rw [r1]
      rfl
    obtain ⟨id', h'⟩ := orun_print R _ rest p.1 (l ++ [anewP p]) hs5 (fun y hy => hx y (List.mem_cons_of_mem _ hy)) (List.pairwise_cons.1 ho).2 (fun y hy => (List.pairwise_cons.1 ho).1 y.1 (List.mem_map.2 ⟨y, hy, rfl⟩))
    refine ⟨id', ?_⟩
    show orun s (R.length + 1) _ = _
    rw [orun, if_pos rfl, hst, h']
    have he : pre ++ putB p.1 ++ putB p.2.epoch ++ putB (p.2.count : Int) ++ sentsL (winL p.2) ++ onesL R = pre ++ onesL (p :: R) := by show _ = pre ++ (oneI p ++ onesL R); unfold oneI headI; simp only [ByteArray.append_assoc]
    rw [he, List.append_assoc]
    rfl
theorem parse_printI {R : List (Int × HeardC)} (wf : WfR R) (ho : SortI R) (hl : R.length ≤ 10000) : pzE (printI R) = 0 ∧ (pzF (printI R)).l = R.map anewP := by
  have hm := wf.mem ho.kd
  have e1 : printI R = ⟨#[]⟩ ++ putB (R.length : Int) ++ onesL R := by rw [nilb]; rfl
  obtain ⟨r1, r2, r3⟩ := read_one (lo := 0) (hi := 10000) e1 ⟨by omega, by omega⟩ ⟨by omega, by omega⟩
  rw [nilb] at r2
  have r1 : nuN (printI R) 0 0 = R.length := r1
  have r2 : nuT (printI R) 0 0 = (putB (R.length : Int)).size := r2
  have r3 : nuE (printI R) 0 0 0 10000 = 0 := r3
  have e2 : printI R = putB (R.length : Int) ++ onesL R ++ ⟨#[]⟩ := by rw [bnil]; rfl
  obtain ⟨id', h'⟩ := orun_print R _ _ (-1) [] e2 hm ho (fun p hp => by have := (hm p hp).1.1; omega)
  have hF : pzF (printI R) = ⟨(printI R).size, 0, id', R.map anewP⟩ := by
    unfold pzF pz0 pzC
    rw [r1, r2, r3, Int.toNat_natCast, h']
    rfl
  unfold pzE
  rw [hF]
  exact ⟨by show wE 0 (decide (((printI R).size : Int) = (printI R).size)) = 0; rw [decide_eq_true rfl]; rfl, rfl⟩
theorem printI_size {R : List (Int × HeardC)} (wf : WfR R) (hk : KD R) (hl : R.length ≤ 10000) : (printI R).size ≤ 1800010 := by
  have h1 := putB_size (n := (R.length : Int)) ⟨by omega, by omega⟩
  have h2 := onesL_size (wf.mem hk)
  unfold printI
  rw [ByteArray.size_append]
  omega
end Go.Proofs.Ytbjpifipjcfhkaa
