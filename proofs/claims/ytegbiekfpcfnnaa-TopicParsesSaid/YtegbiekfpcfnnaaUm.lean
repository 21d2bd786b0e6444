/-
  Parse of what Print told is the table again, in plain Lean.
-/
import Derived.Test.YtegbiekfpcfnnaaUl
namespace Go.Proofs.Ytegbiekfpcfnnaa
open Go.RowKit Fx

theorem aget_none_of {α : Type} {κ : Type} [DecidableEq κ] {L : List (κ × α)} {x : κ} (h : x ∉ L.map (·.1)) : aget L x = none := by
  induction L with
  | nil => rfl
  | cons p L ih =>
    obtain ⟨k, v⟩ := p
    simp only [List.map_cons, List.mem_cons, not_or] at h
    rw [aget, if_neg (fun e => h.1 e.symm)]
    exact ih h.2
theorem mapO_keys (l : List OneP) (h : (keysF l).Nodup) : mapO l = l := by
  suffices hh : ∀ (m acc : List OneP), (keysF (acc ++ m)).Nodup → m.foldl (fun M p => aput M p.1 p.2) acc = acc ++ m by
    have := hh l [] h
    rw [List.nil_append] at this
    exact this
  intro m
  induction m with
  | nil => intro acc _; simp
  | cons p m ih =>
    intro acc hn
    have hp : aget acc p.1 = none := aget_none_of (fun e => by
      unfold keysF at hn
      rw [List.map_append, List.map_cons] at hn
      exact (List.nodup_append.1 hn).2.2 p.1 e p.1 List.mem_cons_self rfl)
    rw [List.foldl_cons, aput_new hp, ih _ (by simpa using hn)]
    simp
theorem idsO_gen : ∀ (m : List OneP) (acc : List (Int × Value)), (acc.map (·.1)).Nodup → ((m.foldl (fun D p => aput D p.2.1 (.bool true)) acc).map (·.1)).Nodup ∧ (m.foldl (fun D p => aput D p.2.1 (.bool true)) acc).length ≤ acc.length + m.length ∧
    ((m.foldl (fun D p => aput D p.2.1 (.bool true)) acc).length = acc.length + m.length ↔ (acc.map (·.1) ++ m.map (·.2.1)).Nodup) := by
  intro m
  induction m with
  | nil => intro acc h; simp [h]
  | cons p m ih =>
    intro acc h
    rw [List.foldl_cons]
    by_cases hp : p.2.1 ∈ acc.map (·.1)
    · have hl : (aput acc p.2.1 (.bool true)).length = acc.length ∧ (aput acc p.2.1 (.bool true)).map (·.1) = acc.map (·.1) := by
        clear ih h
        induction acc with
        | nil => simp at hp
        | cons q acc ih2 =>
          obtain ⟨k, v⟩ := q
          rw [aput]
          split
          · simp
          · rename_i hk
            simp only [List.map_cons, List.mem_cons] at hp
            have := ih2 (hp.resolve_left (fun e => hk e.symm))
            simp [this.1, this.2]
      obtain ⟨h1, h2, h3⟩ := ih (aput acc p.2.1 (.bool true)) (by rw [hl.2]; exact h)
      refine ⟨h1, by rw [hl.1] at h2; simp; omega, ?_⟩
      rw [hl.1] at h2
      constructor
      · intro e; simp at e; omega
      · intro e
        rw [List.map_cons] at e
        exact absurd rfl ((List.nodup_append.1 e).2.2 p.2.1 hp p.2.1 List.mem_cons_self)
    · have hl : aput acc p.2.1 (.bool true) = acc ++ [(p.2.1, .bool true)] := aput_new (aget_none_of hp)
      have hn : ((acc ++ [(p.2.1, Value.bool true)]).map (·.1)).Nodup := by
        rw [List.map_append]
        refine List.nodup_append.2 ⟨h, by simp, fun a ha c hc e => ?_⟩
        simp only [List.map_cons, List.map_nil, List.mem_singleton] at hc
        subst hc; subst e
        exact hp ha
      obtain ⟨h1, h2, h3⟩ := ih _ hn
      rw [hl]
      refine ⟨h1, by simp at h2 ⊢; omega, ?_⟩
      simp only [List.length_append, List.length_cons, List.length_nil, List.map_append, List.map_cons, List.map_nil, List.append_assoc, List.cons_append, List.nil_append] at h3 ⊢
      rw [← h3]
      constructor <;> intro e <;> omega
theorem idsO_len (l : List OneP) : (idsO l).length = l.length ↔ (l.map (·.2.1)).Nodup := by
  have h := (idsO_gen l [] .nil).2.2
  simpa [idsO] using h
theorem idsO_le (l : List OneP) : (idsO l).length ≤ l.length := by
  have h := (idsO_gen l [] .nil).2.1
  simpa [idsO] using h
theorem WfT.ids_nodup {R : Tbl} (h : WfT R) : (R.all.map (·.2.1)).Nodup := by
  refine List.pairwise_map.2 ((List.pairwise_map.1 h.keys).imp_of_mem ?_)
  intro p q hp hq hne
  exact h.apart p.1 q.1 p.2 q.2 (aget_of_mem h.keys hp) (aget_of_mem h.keys hq) hne
theorem blt_empty {nm : ByteArray} (h : 1 ≤ nm.size) : bltB ⟨#[]⟩ nm = true := by
  rw [blt_iff]
  cases hx : nm.data.toList with
  | nil =>
    have : nm.data.toList.length = nm.size := rfl
    rw [hx] at this
    simp at this
    omega
  | cons a l => exact List.nil_lt_cons a l
theorem lastN_lt {l : List OneP} (hs : SortF l) {k : Nat} (hk : k < l.length) (h1 : 1 ≤ l[k].1.size) : bltB (lastN (l.take k)) l[k].1 = true := by
  cases k with
  | zero => exact blt_empty h1
  | succ j =>
    have hj : j < l.length := by omega
    rw [List.take_succ_eq_append_getElem hj, lastN_app]
    have := List.pairwise_iff_getElem.1 (List.pairwise_map.1 hs) j (j + 1) hj hk (by omega)
    exact this
theorem printL_app (acc : ByteArray) (l m : List OneP) : printL acc (l ++ m) = printL (printL acc l) m := by unfold printL; rw [List.foldl_append]
theorem printL_acc (a b : ByteArray) : ∀ l : List OneP, printL (a ++ b) l = a ++ printL b l
  | [] => rfl
  | p :: l => by
    show printL (a ++ b ++ oneB p) l = a ++ printL (b ++ oneB p) l
    rw [ByteArray.append_assoc, printL_acc]
theorem printT_split (R : Tbl) {k : Nat} (hk : k < R.all.length) : printT R = printL (printA R) (R.all.take k) ++ oneB R.all[k] ++ printL ⟨#[]⟩ (R.all.drop (k + 1)) := by
  have h1 : R.all = R.all.take (k + 1) ++ R.all.drop (k + 1) := (List.take_append_drop _ _).symm
  show printL (printA R) R.all = _
  conv => lhs; rw [h1]
  rw [printL_app, printL_next _ hk]
  have := printL_acc (printL (printA R) (R.all.take k) ++ oneB R.all[k]) ⟨#[]⟩ (R.all.drop (k + 1))
  rw [← this]
  congr 1
  exact (ByteArray.append_empty).symm
theorem printT_head (R : Tbl) : printT R = printA R ++ printL ⟨#[]⟩ R.all := by
  have := printL_acc (printA R) ⟨#[]⟩ R.all
  rw [← this]
  show printL (printA R) R.all = _
  congr 1
  exact (ByteArray.append_empty).symm
section
variable {R : Tbl}
theorem step_print (wf : WfT R) (ho : SortF R.all) {k : Nat} (hk : k < R.all.length) :
    pstep (printT R) R.next ⟨(printL (printA R) (R.all.take k)).size, 0, R.all.take k⟩ = ⟨(printL (printA R) (R.all.take (k + 1))).size, 0, R.all.take (k + 1)⟩ := by
  have hi := wf.ids R.all[k].1 R.all[k].2 (aget_of_mem wf.keys (List.getElem_mem hk))
  have hnx := wf.next
  have hlt := lastN_lt ho hk hi.2.2.2.2.1
  have hsp := printT_split R hk
  rw [List.take_succ_eq_append_getElem hk, printL_app]
  generalize printL (printA R) (R.all.take k) = pre at hsp ⊢
  generalize R.all.take k = l at hlt ⊢
  generalize printL ⟨#[]⟩ (R.all.drop (k + 1)) = rest at hsp
  generalize R.all[k] = p at hi hlt hsp ⊢
  obtain ⟨nm, id, pt⟩ := p
  obtain ⟨i1, i2, i3, i4, i5, i6⟩ : 0 ≤ id ∧ id < R.next ∧ 1 ≤ pt ∧ pt ≤ 16 ∧ 1 ≤ nm.size ∧ nm.size ≤ 100 := hi
  have e1 : printT R = pre ++ (putB nm.size ++ nm) ++ (putB id ++ putB pt ++ rest) := by rw [hsp]; unfold oneB; simp only [ByteArray.append_assoc]
  have e2 : printT R = (pre ++ (putB nm.size ++ nm)) ++ putB id ++ (putB pt ++ rest) := by rw [e1]; simp only [ByteArray.append_assoc]
  have e3 : printT R = (pre ++ (putB nm.size ++ nm) ++ putB id) ++ putB pt ++ rest := by rw [e2]; simp only [ByteArray.append_assoc]
  obtain ⟨t1, t2, t3⟩ := take_at pre (putB id ++ putB pt ++ rest) nm i6
  rw [← e1] at t1 t2 t3
  obtain ⟨g1, g2, g3⟩ := get_at (pre ++ (putB nm.size ++ nm)) (putB pt ++ rest) (n := id) ⟨by omega, by omega⟩
  rw [← e2] at g1 g2 g3
  obtain ⟨f1, f2, f3⟩ := get_at (pre ++ (putB nm.size ++ nm) ++ putB id) rest (n := pt) ⟨by omega, by omega⟩
  rw [← e3] at f1 f2 f3
  have z1 : ((pre.size : Int) + ((putB (nm.size : Int) ++ nm).size : Int)) = ((pre ++ (putB (nm.size : Int) ++ nm)).size : Int) := by rw [ByteArray.size_append (a := pre)]; omega
  have z2 : (((pre ++ (putB (nm.size : Int) ++ nm)).size : Int) + ((putB id).size : Int)) = ((pre ++ (putB (nm.size : Int) ++ nm) ++ putB id).size : Int) := by rw [ByteArray.size_append (b := putB id)]; omega
  rw [z1] at t3
  rw [z2] at g3
  have s1 : st1E (printT R) ⟨pre.size, 0, l⟩ = 0 := by
    unfold st1E txE txS wE
    simp only [if_true, t1, t2, hlt]
  have sT : txT (printT R) pre.size 0 = (pre ++ (putB nm.size ++ nm)).size := by unfold txT; rw [if_pos rfl, t3]
  have sS : txS (printT R) pre.size 0 = nm := by unfold txS; rw [if_pos rfl, t2]
  have n2 : st2N (printT R) ⟨pre.size, 0, l⟩ = id := by
    unfold st2N nuN
    rw [s1, if_pos rfl]
    show vgetN (printT R) (txT (printT R) pre.size 0) = id
    rw [sT, g2]
  have T2 : st2T (printT R) ⟨pre.size, 0, l⟩ = (pre ++ (putB nm.size ++ nm) ++ putB id).size := by
    unfold st2T nuT
    rw [s1, if_pos rfl]
    show vgetT (printT R) (txT (printT R) pre.size 0) = _
    rw [sT, g3]
  have E2 : st2E (printT R) R.next ⟨pre.size, 0, l⟩ = 0 := by
    unfold st2E nuE
    rw [s1, if_pos rfl]
    show wE (vgetE (printT R) (txT (printT R) pre.size 0)) (decide (0 ≤ vgetN (printT R) (txT (printT R) pre.size 0)) && decide (vgetN (printT R) (txT (printT R) pre.size 0) ≤ R.next - 1)) = 0
    rw [sT, g1, g2, decide_eq_true i1, decide_eq_true (by omega)]
    rfl
  have n3 : st3N (printT R) R.next ⟨pre.size, 0, l⟩ = pt := by
    unfold st3N nuN
    rw [E2, if_pos rfl, T2, f2]
  have E3 : st3E (printT R) R.next ⟨pre.size, 0, l⟩ = 0 := by
    unfold st3E nuE
    rw [E2, if_pos rfl, T2, f1, f2, decide_eq_true i3, decide_eq_true i4]
    rfl
  have T3 : st3T (printT R) R.next ⟨pre.size, 0, l⟩ = (pre ++ oneB (nm, (id, pt))).size := by
    unfold st3T nuT
    rw [E2, if_pos rfl, T2, f3]
    unfold oneB
    simp only [ByteArray.size_append]
    omega
  unfold pstep
  rw [T3, E3]
  unfold pone
  rw [n2, n3]
  show (⟨_, _, l ++ [(txS (printT R) pre.size 0, (id, pt))]⟩ : PSt) = _
  rw [sS]
  rfl
theorem run_print (wf : WfT R) (ho : SortF R.all) : ∀ j k, k + j = R.all.length → prun (printT R) R.next j ⟨(printL (printA R) (R.all.take k)).size, 0, R.all.take k⟩ = ⟨(printT R).size, 0, R.all⟩
  | 0, k, h => by
    obtain rfl : k = R.all.length := by omega
    rw [List.take_length]
    rfl
  | j + 1, k, h => by
    rw [prun, if_pos rfl, step_print wf ho (by omega)]
    exact run_print wf ho j (k + 1) (by omega)
theorem parse_print (wf : WfT R) (ho : SortF R.all) : paE (printT R) = 0 ∧ paX (printT R) = R.next ∧ (paF (printT R)).l = R.all := by
  have hnx := wf.next
  have hl := wf.len
  have e1 : printT R = ⟨#[]⟩ ++ putB R.next ++ (putB (R.all.length : Int) ++ printL ⟨#[]⟩ R.all) := by
    rw [printT_head]; unfold printA; rw [ByteArray.append_assoc]
    show _ = (ByteArray.empty ++ _) ++ _
    rw [ByteArray.empty_append]
  have e2 : printT R = putB R.next ++ putB (R.all.length : Int) ++ printL ⟨#[]⟩ R.all := by rw [printT_head]; rfl
  obtain ⟨g1, g2, g3⟩ := get_at ⟨#[]⟩ (putB (R.all.length : Int) ++ printL ⟨#[]⟩ R.all) (n := R.next) ⟨by omega, by omega⟩
  rw [← e1] at g1 g2 g3
  obtain ⟨f1, f2, f3⟩ := get_at (putB R.next) (printL ⟨#[]⟩ R.all) (n := (R.all.length : Int)) ⟨by omega, by omega⟩
  rw [← e2] at f1 f2 f3
  have z0 : (((⟨#[]⟩ : ByteArray).size : Nat) : Int) = 0 := rfl
  rw [z0] at g1 g2 g3
  rw [Int.zero_add] at g3
  have hX : paX (printT R) = R.next := by unfold paX nuN; rw [if_pos rfl, g2]
  have hT : nuT (printT R) 0 0 = (putB R.next).size := by unfold nuT; rw [if_pos rfl, g3]
  have h1E : pa1E (printT R) = 0 := by
    unfold pa1E nuE
    rw [if_pos rfl, g1, g2, decide_eq_true hnx.1, decide_eq_true hnx.2]
    rfl
  have hC : paC (printT R) = R.all.length := by unfold paC nuN; rw [h1E, if_pos rfl, hT, f2]
  have hP : paP (printT R) = ⟨(printL (printA R) (R.all.take 0)).size, 0, R.all.take 0⟩ := by
    unfold paP nuT nuE
    rw [h1E, if_pos rfl, if_pos rfl]
    rw [if_pos rfl, g3, f1, f2, f3, decide_eq_true (by omega), decide_eq_true (by omega)]
    show (⟨_, _, _⟩ : PSt) = ⟨((putB R.next ++ putB (R.all.length : Int)).size : Nat), _, _⟩
    rw [ByteArray.size_append]
    rfl
  have hF : paF (printT R) = ⟨(printT R).size, 0, R.all⟩ := by
    unfold paF
    rw [hX, hC, hP, Int.toNat_natCast]
    exact run_print wf ho _ 0 (by omega)
  refine ⟨?_, hX, by rw [hF]⟩
  unfold paE
  rw [hF, hC]
  show wE 0 (decide (((printT R).size : Int) = (printT R).size) && decide (((idsO R.all).length : Int) = R.all.length)) = 0
  rw [(idsO_len R.all).2 wf.ids_nodup, decide_eq_true rfl, decide_eq_true rfl]
  rfl
end
end Go.Proofs.Ytegbiekfpcfnnaa
