/-
  A table's list; two lists that are equal are told the same.
-/
import Derived.Test.YtegbiekfpcfnnaaTh
namespace Go.Proofs.Ytegbiekfpcfnnaa
open Go.RowKit Fx

def rT : Rdr (ByteArray × Int) := fun _ cs p => cs = [.string p.1, .int .i64 p.2]
theorem stable_T : Stable rT := fun _ _ _ _ _ h => h
def encT (p : ByteArray × Int) : List Value := [.string p.1, .int .i64 p.2]
theorem topic_cells {w : World} {b off : Nat} {l : List (ByteArray × Int)} (h : RowAt 2 rT w b off l) (k : Nat) (hk : k < l.length) :
    w.cell? ⟨b, off + k * 2, none⟩ = some (.string l[k].1) ∧ w.cell? ⟨b, off + k * 2 + 1, none⟩ = some (.int .i64 l[k].2) ∧ b < w.heap.size := by
  obtain ⟨cs, h1, h2, rfl⟩ := h k hk
  have e0 : w.cell? ⟨b, off + k * 2, none⟩ = some (.string l[k].1) := h2 0 (by omega)
  exact ⟨e0, h2 1 (by omega), World.block_lt_of_cell? w _ e0⟩
theorem t61a : Try.prog.underlying 61 = some (.struct (Try.prog.fieldsOf 61)) := by kernel_rfl
theorem t61b : Try.prog.stoodInHeld 61 = false := by kernel_rfl
theorem t61c : Try.prog.eqGuardType Try.prog.depth 61 = false := by kernel_rfl
theorem tfields_of {P : Program} {t : TypeId} {fs : Array Field} (h : P.underlying t = some (.struct fs)) : P.fieldsOf t = fs := by simp [Program.fieldsOf, h]
theorem neq61 (s1 s2 : ByteArray) (i1 i2 : Int) (w : World) : (binOp .neq 61 (.agg #[.string s1, .int .i64 i1]) (.agg #[.string s2, .int .i64 i2])).run Try.prog w = .ok (.bool (!(s1.toList == s2.toList && i1 == i2))) w := by
  rw [run_neq_struct, run_equalIn_struct w 9999 61 _ _ t61a t61b, tfields_of Try.underlying61]
  simp [Op.eqFields, go_sem]
  by_cases h1 : s1.toList = s2.toList <;> by_cases h2 : i1 = i2 <;> simp [h1, h2]
theorem neq61_same (s : ByteArray) (i : Int) (w : World) : (binOp .neq 61 (.agg #[.string s, .int .i64 i]) (.agg #[.string s, .int .i64 i])).run Try.prog w = .ok (.bool false) w := by
  rw [neq61]; simp
set_option maxRecDepth 100000 in
set_option maxHeartbeats 1000000 in
theorem sameTopics_any (w : World) (a1 a2 : Option Addr) (c1 c2 : Nat) (l : List (ByteArray × Int)) (h1 : SlAt 2 rT w a1 c1 l) (h2 : SlAt 2 rT w a2 c2 l) :
    Calls Try.prog 13 #[.slice a1 l.length c1, .slice a2 l.length c2] w fun e w' => Same w e (.bool true) w' := by
  have hm := h1.len
  have H1 := Lib.hid h1
  have H2 := Lib.hid h2
  clear h1 h2
  have hne : ((l.length : Int) != l.length) = false := by simp
  go_enter Try.func13, Try.ntmps13
  go_wp2
  go_loopw [5] (fun i wr => ∃ k : Nat, i = .int .i64 k ∧ k ≤ l.length ∧ K0 w wr) (fun i _ => l.length - (intOf i).toNat)
  case atStart => exact ⟨0, rfl, by omega, Keeps.refl _ _⟩
  case round =>
    obtain ⟨k, rfl, hk, hkk⟩ := hrel
    by_cases hlt : k < l.length
    · have s1 := H1.out.keep0 stable_T hkk
      have s2 := H2.out.keep0 stable_T hkk
      obtain ⟨b1, off1, rfl, r1⟩ := s1.row hlt
      obtain ⟨b2, off2, rfl, r2⟩ := s2.row hlt
      obtain ⟨x0, x1, hb1⟩ := topic_cells r1 k hlt
      obtain ⟨y0, y1, hb2⟩ := topic_cells r2 k hlt
      have HK := Lib.hid hkk
      clear r1 r2 s1 s2 hkk
      have i0 : (0 : Int) ≤ k := by omega
      have i1 : (k : Int) < l.length := by omega
      have q1 := neq61_same
      have q3 := t61c
      generalize l[k].1 = s at x0 y0
      generalize l[k].2 = i at x1 y1
      go_wp2_with fail
      go_quiet (fail)
      go_wp2
      go_roundw
      case rel => exact ⟨k + 1, by go_num, by omega, HK.out.drewN _⟩
      case measure => simp [intOf]; omega
    · have HK := Lib.hid hkk
      clear hk hkk
      go_wp2
      go_ret
      exact ⟨rfl, HK.out⟩
def topicsL (t : Tbl) (ss : List ByteArray) : List (ByteArray × Int) := ss.map fun s => (s, partsT t s)
theorem info61 : (Try.prog.info? 61).map (fun i => (i.zero, i.size, i.bytes)) = some (some (.agg #[.string ⟨#[]⟩, .int .i64 0]), 2, 24) := by kernel_rfl
theorem one_parts (x p : Int) (w : World) : (Instr.field 58 (.agg #[.int .i64 x, .int .i64 p]) 1).run Try.prog w = .ok (.int .i64 p) w := by kernel_rfl
def LRel (w : World) (B : Nat) (t : Tbl) (ss : List ByteArray) (k : Nat) (v : Value) (wr : World) : Prop :=
  wr.ownsRow B 61 2 v k ((topicsL t (ss.take k)).flatMap encT) ∧ K0 w wr
theorem topicsL_next (t : Tbl) (ss : List ByteArray) {k : Nat} (h : k < ss.length) : (topicsL t (ss.take (k + 1))).flatMap encT = (topicsL t (ss.take k)).flatMap encT ++ [.string ss[k], .int .i64 (partsT t ss[k])] := by
  rw [List.take_succ_eq_append_getElem h]
  unfold topicsL
  rw [List.map_append, List.flatMap_append]
  rfl
set_option maxRecDepth 100000 in
set_option maxHeartbeats 2000000 in
theorem list_at {w : World} {b m : Nat} {t : Tbl} (h : TblAt w b m t) (hd : KD t.all) (hs : ∀ p ∈ t.all, p.1.size ≤ 100000) (hl : t.all.length ≤ 1000) :
    Calls Try.prog 14 #[.pointer (some ⟨b, 0, none⟩)] w fun e w' => ∃ a c ss, e = .returned (.slice a ss.length c) ∧ ss.Perm (t.all.map (·.1)) ∧ (ss.map fun s => s.data.toList).Pairwise (fun x y => x ≤ y) ∧ SlAt 2 rT w' a c (topicsL t ss) ∧ K0 w w' := by
  have NM := Lib.hid (names_at h hs (by omega))
  have HT := Lib.hid h
  have HD := Lib.hid hd
  have HL := Lib.hid hl
  have hop := one_parts
  have hka : (Tbl.vals t.all).map (·.1) = t.all.map (·.1) := by simp [Tbl.vals, Function.comp_def]
  have HKA := Lib.hid hka
  clear h hd hs hl hka
  go_enter Try.func14, Try.ntmps14
  go_wp2_with fail
  refine NM.out.mono ?_
  rintro e w1 ⟨a0, c0, ss, rfl, hN, k1⟩
  have hpm := hN.perm
  rw [HKA.out] at hpm
  have hsl : ss.length ≤ 1000 := by have := hpm.length_eq; have := HL.out; simp at *; omega
  have HPM := Lib.hid hpm
  have HORD := Lib.hid hN.ord
  have HROW := Lib.hid hN.row
  have HK1 := Lib.hid k1
  have H0 : Hid (LRel w (w1.heap.size) t ss 0 (.slice none 0 0) w1) := ⟨by simpa [topicsL] using World.ownsRow_nil w1 w1.heap.size 61 2, k1⟩
  clear hN k1 hpm
  go_wp2
  go_loopw [3, 9] (fun v i wr => ∃ k : Nat, i = .int .i64 k ∧ k ≤ ss.length ∧ LRel w w1.heap.size t ss k v wr ∧ K0 w1 wr) (fun _ i _ => ss.length - (intOf i).toNat)
  case atStart => exact ⟨0, rfl, by omega, H0.out, Keeps.refl _ _⟩
  case round =>
    obtain ⟨k, rfl, hk, hr, hkk⟩ := hrel
    by_cases hlt : k < ss.length
    · have HR := Lib.hid hr
      have HKK := Lib.hid hkk
      have hrow := HROW.out
      obtain ⟨g, rfl⟩ : ∃ g, a0 = some ⟨g, 0, none⟩ := by
        rcases hrow.2 with ⟨_, h2⟩ | ⟨r, cp, cur, h1, _⟩
        · omega
        · simp only [Value.slice.injEq] at h1
          exact ⟨r, h1.1⟩
      have hc1 : w1.cell? ⟨g, k, none⟩ = some (.string ss[k]) := by
        rw [hrow.cellAt k (by omega), List.getElem?_map, List.getElem?_eq_getElem hlt]
        rfl
      have hc := hkk.cell' hc1 (fun e => e)
      have hltg := World.block_lt_of_cell? wr _ hc
      have htb := HT.out.keep hr.2 (fun e => e) (fun e => e)
      have c1 := htb.cell1
      have hltb := htb.lt
      have hm := Lib.hid htb.map
      obtain ⟨q, hq, hqe⟩ := List.mem_map.1 (HPM.out.mem_iff.1 (List.getElem_mem hlt))
      have hg : aget t.all ss[k] = some q.2 := by rw [← hqe]; exact aget_of_mem HD.out hq
      have HV : Hid (aget (Tbl.vals t.all) ss[k] = some (.agg #[.int .i64 q.2.1, .int .i64 q.2.2])) := by show _ = _; rw [aget_vals, hg]; rfl
      have HPT : Hid (partsT t ss[k] = q.2.2) := by show _ = _; simp [partsT, hg]
      have hown := hr.1
      have HNX := Lib.hid (topicsL_next t ss hlt)
      generalize (topicsL t (ss.take k)).flatMap encT = xs at hown HNX
      have hbs : w1.heap.size ≤ wr.heap.size := hkk.size
      clear hr hkk hrow hc1 htb hq hqe hg
      go_wp2_with (first | (at_lookup; refine wpList_look (strKey Try.underlying9) rfl rfl Try.underlying54 zero58 rfl _ rfl hm.out _ HV.out ?_) | (at_builtin; refine wpList_app1 rfl rfl Try.underlying37 info61 rfl (by decide) rfl (hown.alloc _) rfl (heap_new _ _ _ rfl) rfl rfl (by omega) (by simp; omega) ?_; intro g2 cap2 w4 hA4))
      have hown4 := hA4.own
      have hgr : wr.grownBy w4 _ := grown_alloc hA4.grown
      have hK4 : K0 w1 w4 := HKK.out.grown hgr (fun j e hj => by have := (hown.lt j e).1; omega)
      have HK4 := Lib.hid hK4
      have HO4 : Hid (w4.ownsRow w1.heap.size 61 2 (.slice (some ⟨g2, 0, none⟩) (k + 1) cap2) (k + 1) ((topicsL t (ss.take (k + 1))).flatMap encT)) := by
        show World.ownsRow _ _ _ _ _ _ _
        rw [HNX.out, HPT.out]
        exact hown4
      clear hown4 hgr hK4 hA4 hown
      go_roundw
      case rel => exact ⟨k + 1, by go_num, by omega, ⟨HO4.out, K0.tr HK1.out HK4.out⟩, HK4.out⟩
      case measure => simp [intOf]; omega
    · obtain rfl : k = ss.length := by omega
      have hrow := hr.1
      rw [List.take_length] at hrow
      have hfl : (topicsL t ss).length = ss.length := by simp [topicsL]
      obtain ⟨a, c, hv, hsl2, _⟩ := own_slAt (R := rT) (l := topicsL t ss) encT (fun _ => rfl) (fun _ => rfl) (by rw [hfl]; exact hrow)
      rw [hfl] at hv
      subst hv
      have HF := Lib.hid hr.2
      have HS2 := Lib.hid hsl2
      clear hr hrow hkk hsl2
      go_wp2
      go_ret
      exact ⟨a, c, ss, rfl, HPM.out, HORD.out, HS2.out, HF.out⟩
end Go.Proofs.Ytegbiekfpcfnnaa
