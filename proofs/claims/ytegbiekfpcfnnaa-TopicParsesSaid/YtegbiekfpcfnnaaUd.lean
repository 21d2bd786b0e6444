/-
  The document's table of topics: List; the program's table and the document's.
-/
import Derived.Test.YtegbiekfpcfnnaaUc
import Derived.Test.YtegbiekfpcfnnaaTm
import Derived.Deep.RegionLaw
namespace Go.Proofs.Ytegbiekfpcfnnaa
open Go.RowKit Fx

def pairsT (R : Tbl) : List (ByteArray × Int) := R.all.map fun p => (p.1, p.2.2)
theorem pairs_take {R : Tbl} {k : Nat} (h : k < R.all.length) : ((pairsT R).take (k + 1)).flatMap encT = ((pairsT R).take k).flatMap encT ++ [.string R.all[k].1, .int .i64 R.all[k].2.2] := by
  have h1 : k < (pairsT R).length := by simpa [pairsT] using h
  rw [List.take_succ_eq_append_getElem h1, List.flatMap_append]
  simp [pairsT, encT]
def RTlistP (w : World) (R : Tbl) (e : Ending) (w' : World) : Prop := ∃ a c, e = .returned (.slice a R.all.length c) ∧ SlAt 2 rT w' a c (pairsT R) ∧ K0 w w'
set_option maxRecDepth 100000 in
set_option maxHeartbeats 4000000 in
theorem rtlist_any {w : World} {F : Nat → Prop} {b : Nat} {R : Tbl} (h : RTst w F b R) (hl : R.all.length ≤ 1000) :
    Calls Try.prog 20 #[.pointer (some ⟨b, 0, none⟩)] w (RTlistP w R) := by
  obtain ⟨v, h⟩ := h
  have HH := Lib.hid h
  have hb := block_lt h.blk
  have hx : w.cell? ⟨b, 1, none⟩ = some v := block_cell h.blk 1
  have hown0 : w.ownsRow w.heap.size 61 2 (.slice none 0 0) 0 [] := World.ownsRow_nil _ _ _ _
  rcases h.form with ⟨hnil, rfl⟩ | ⟨r, cap, rfl, hrb, hrl, hcap, hFr, hcm⟩
  · have HP : Hid (RTlistP w R (.returned (.slice none 0 0)) w) := by
      show RTlistP _ _ _ _
      have e1 : pairsT R = [] := by unfold pairsT; rw [hnil]; rfl
      refine ⟨none, 0, by rw [hnil]; rfl, ?_, Keeps.refl _ _⟩
      rw [e1]
      exact ⟨Nat.le_refl _, by unfold maxLen; simp, fun h => absurd rfl h⟩
    clear h hnil
    go_enter Try.func20, Try.ntmps20
    go_wp2
    refine wp_loop_once ?_
    go_wp2
    go_ret
    exact HP.out
  · clear h
    go_enter Try.func20, Try.ntmps20
    go_wp2
    go_loopw [4, 3] (fun i v wr => ∃ k : Nat, i = .int .i64 k ∧ k ≤ R.all.length ∧ wr.ownsRow w.heap.size 61 2 v k (((pairsT R).take k).flatMap encT) ∧ K0 w wr) (fun i _ _ => R.all.length - (intOf i).toNat)
    case atStart => exact ⟨0, rfl, by omega, hown0, Keeps.refl _ _⟩
    case round =>
      obtain ⟨k, rfl, hk, hown, hkr⟩ := hrel
      have hkz := hkr.size
      have hat := HH.out.keep hkr (fun _ _ e => e)
      have hb := block_lt hat.blk
      have hx : wr.cell? ⟨b, 1, none⟩ = some (.slice (some ⟨r, 0, none⟩) R.all.length cap) := block_cell hat.blk 1
      have HKR := Lib.hid hkr
      have HOW := Lib.hid hown
      obtain ⟨va, vc, rfl⟩ := own_slice hown
      clear hkr
      by_cases hlt : k < R.all.length
      · have c0 := (hat.cell rfl k hlt).1
        have c2 := (hat.cell rfl k hlt).2.2
        have i0 : (0 : Int) ≤ k := by omega
        have i1 : (k : Int) < R.all.length := by omega
        have hrl := World.block_lt_of_cell? _ _ c0
        have HKT := Lib.hid (pairs_take hlt)
        have z1 : wr.drew.cell? ⟨b, 1, none⟩ = some (.slice (some ⟨r, 0, none⟩) R.all.length cap) := hx
        have zb : b < wr.drew.heap.size := hb
        have zr : r < wr.drew.heap.size := hrl
        have z0 : wr.drew.cell? ⟨r, k * 3, none⟩ = some (.string R.all[k].1) := c0
        have z2 : wr.drew.cell? ⟨r, k * 3 + 2, none⟩ = some (.int .i64 R.all[k].2.2) := c2
        generalize R.all[k].1 = nm at c0 z0 HKT
        generalize R.all[k].2.2 = pp at c2 z2 HKT
        have HLT := Lib.hid hlt
        clear hlt hat
        go_wp2_with fail
        go_region_law (refine step_app1 rfl rfl Try.underlying37 info61 rfl (by decide) rfl ((hown.alloc _).drew) rfl (heap_new_drew _ _ _ (by simp)) rfl rfl ⟨by omega, by decide⟩ (by simp; omega) ?_; intro g1 cap1 w4 hA)
        all_goals
          go_wp2
          go_roundw
          case rel => exact ⟨k + 1, by go_num, HLT.out, by rw [HKT.out]; exact hA.own, ((HKR.out.alloc _).drew).grown hA.grown fun q e hq => absurd (HOW.out.lt q e).1 (by omega)⟩
          case measure => have := HLT.out; simp [intOf]; omega
      · obtain rfl : k = R.all.length := by omega
        have HPO : Hid (RTlistP w R (.returned (.slice va R.all.length vc)) wr) := by
          have hkl : (pairsT R).length = R.all.length := by simp [pairsT]
          have h1 := HOW.out
          rw [← hkl, List.take_length] at h1
          obtain ⟨a, c, e, hS, _⟩ := own_slAt (R := rT) (l := pairsT R) encT (fun _ => rfl) (fun _ => rfl) h1
          rw [hkl] at e
          cases e
          exact ⟨va, vc, rfl, hS, HKR.out⟩
        clear hown hat
        go_wp2
        go_ret
        exact HPO.out
/-- The program's table, and the document's. -/
structure SimT (t R : Tbl) : Prop where
  next : R.next = t.next
  get : ∀ s, aget R.all s = aget t.all s
  ord : SortF R.all
structure WfT (t : Tbl) : Prop where
  keys : KD t.all
  next : 0 ≤ t.next ∧ t.next ≤ 1073741824
  len : t.all.length ≤ 20
  ids : ∀ s x, aget t.all s = some x → 0 ≤ x.1 ∧ x.1 < t.next ∧ 1 ≤ x.2 ∧ x.2 ≤ 16 ∧ 1 ≤ s.size ∧ s.size ≤ 100
  apart : ∀ s s' x x', aget t.all s = some x → aget t.all s' = some x' → s ≠ s' → x.1 ≠ x'.1
section
variable {t R : Tbl}
theorem SimT.perm (h : SimT t R) (hd : KD t.all) : R.all.Perm t.all := perm_same h.ord.kd hd h.get
theorem SimT.len (h : SimT t R) (hd : KD t.all) : R.all.length = t.all.length := (h.perm hd).length_eq
theorem SimT.find (h : SimT t R) (s : ByteArray) : R.find s = t.find s := by unfold Tbl.find; rw [h.get]
theorem SimT.create (h : SimT t R) (hd : KD t.all) (s : ByteArray) (p : Int) : (R.rcreate s p).1 = (t.create s p).1 ∧ (R.rcreate s p).2.1 = (t.create s p).2.1 ∧ SimT (t.create s p).2.2 (R.rcreate s p).2.2 := by
  unfold Tbl.rcreate Tbl.create
  split
  · exact ⟨rfl, rfl, h⟩
  · rw [h.get]
    cases hg : aget t.all s with
    | some x => exact ⟨rfl, rfl, h⟩
    | none =>
      dsimp only
      rw [h.len hd, h.next]
      split
      · exact ⟨rfl, rfl, h⟩
      · refine ⟨rfl, rfl, rfl, fun u => ?_, h.ord.ins (by rw [h.get]; exact hg) _⟩
        show aget (insS R.all s _) u = aget (aput t.all s _) u
        rw [aget_insS (by rw [h.get]; exact hg), aget_aput, h.get]
theorem SimT.del (h : SimT t R) (hd : KD t.all) (s : ByteArray) : SimT ⟨t.next, adel t.all s⟩ (rtdel R s) :=
  ⟨h.next, fun u => by show aget (adel R.all s) u = aget (adel t.all s) u; rw [aget_adel h.ord.kd, aget_adel hd, h.get], h.ord.del s⟩
theorem WfT.new : WfT ⟨0, []⟩ := ⟨.nil, ⟨by decide, by decide⟩, by simp, fun s x e => (by cases e), fun s s' x x' e => (by cases e)⟩
theorem WfT.create (h : WfT t) (s : ByteArray) (p : Int) : WfT (t.create s p).2.2 := by
  unfold Tbl.create
  split
  · exact h
  · rename_i hb
    cases hg : aget t.all s with
    | some x => exact h
    | none =>
      dsimp only
      split
      · exact h
      · rename_i hf
        have hn := h.next
        refine ⟨h.keys.put _ _, ⟨by show 0 ≤ t.next + 1; omega, by show t.next + 1 ≤ _; omega⟩, ?_, fun u x e => ?_, fun u u' x x' e e' hne => ?_⟩
        · have : (aput t.all s (t.next, p)).length = t.all.length + 1 := by rw [aput_new hg]; simp
          show (aput t.all s (t.next, p)).length ≤ 20
          omega
        · have e : aget (aput t.all s (t.next, p)) u = some x := e
          rw [aget_aput] at e
          split at e
          · rename_i hu; cases e; subst hu
            exact ⟨by show 0 ≤ t.next; omega, by show t.next < t.next + 1; omega, by show 1 ≤ p; omega, by show p ≤ 16; omega, by omega, by omega⟩
          · have := h.ids u x e
            exact ⟨this.1, by show x.1 < t.next + 1; omega, this.2.2⟩
        · have e : aget (aput t.all s (t.next, p)) u = some x := e
          have e' : aget (aput t.all s (t.next, p)) u' = some x' := e'
          rw [aget_aput] at e e'
          split at e
          · split at e'
            · rename_i h1 h2; exact absurd (h1.symm.trans h2) hne
            · cases e
              have := h.ids u' x' e'
              show t.next ≠ x'.1
              omega
          · split at e'
            · cases e'
              have := h.ids u x e
              show x.1 ≠ t.next
              omega
            · exact h.apart u u' x x' e e' hne
theorem adel_some {l : List OneP} (hd : KD l) {s u : ByteArray} {x : Int × Int} (e : aget (adel l s) u = some x) : aget l u = some x := by
  rw [aget_adel hd] at e
  split at e
  · cases e
  · exact e
theorem WfT.del (h : WfT t) (s : ByteArray) : WfT ⟨t.next, adel t.all s⟩ :=
  ⟨h.keys.del s, h.next, Nat.le_trans (adel_sub t.all s).length_le h.len, fun u x e => h.ids u x (adel_some h.keys e), fun u u' x x' e e' hne => h.apart u u' x x' (adel_some h.keys e) (adel_some h.keys e') hne⟩
theorem SimT.wf (h : SimT t R) (wf : WfT t) : WfT R :=
  ⟨h.ord.kd, by rw [h.next]; exact wf.next, by rw [h.len wf.keys]; exact wf.len, fun s x e => by rw [h.get] at e; rw [h.next]; exact wf.ids s x e, fun s s' x x' e e' => wf.apart s s' x x' (by rw [← h.get]; exact e) (by rw [← h.get]; exact e')⟩
theorem sort_names {l : List OneP} (h : SortF l) : ((keysF l).map fun s => s.data.toList).Pairwise fun x y => x ≤ y := by
  refine List.pairwise_map.2 (List.Pairwise.imp ?_ h)
  intro a b hab
  exact List.le_of_lt ((blt_iff a b).1 hab)
theorem SimT.names (h : SimT t R) (wf : WfT t) {ss : List ByteArray} (hp : ss.Perm (t.all.map (·.1))) (ho : (ss.map fun s => s.data.toList).Pairwise fun x y => x ≤ y) : ss = keysF R.all := by
  have h1 : ss.Perm (keysF R.all) := hp.trans ((h.perm wf.keys).map _).symm
  have h3 := List.Perm.eq_of_pairwise (le := fun x y : List UInt8 => x ≤ y) (fun a b _ _ h1 h2 => List.le_antisymm h1 h2) ho (sort_names h.ord) (h1.map _)
  exact (List.map_inj_right fun a b e => data_inj e).1 h3
theorem SimT.pairs (h : SimT t R) : topicsL t (keysF R.all) = pairsT R := by
  unfold topicsL keysF pairsT
  rw [List.map_map]
  apply List.map_congr_left
  intro p hp
  have h1 : aget R.all p.1 = some p.2 := aget_of_mem h.ord.kd hp
  rw [h.get] at h1
  simp [partsT, h1]
end
end Go.Proofs.Ytegbiekfpcfnnaa
