/-
  A map's entry taken and stored, and a value put, each in any world in which its block stands as it does.
-/
import Derived.Test.YtegbiekfpcfnnaaMq
import Derived.WideKeyEntry
namespace Go.Proofs.Ytegbiekfpcfnnaa.Fx
open Go.RowKit Go.MapKept
section
variable {P : Program} {kt : TypeId} {κ : Type} [DecidableEq κ] (E : KeyEnc P kt κ) {w : World} {b : Nat} {L : List (κ × Value)}
/-- What 'm[k] = v' does to the block. -/
theorem MapAt.putB {t et : TypeId} (h : MapAt E.enc w b L) (ht : P.underlying t = some (.map kt et)) (x : κ) (v : Value) :
    ∃ O0 ob, w.heap[b]? = some O0 ∧ (∀ wx, wx.heap[b]? = some O0 → (Instr.mapUpdate t (.map (some b)) (E.enc x) v).run P wx = .ok () (setObjAt wx b ob)) ∧ ∀ wx, wx.heap[b]? = some ob → MapAt E.enc wx b (aput L x v) := by
  obtain ⟨es, clock, hb, hs, hL⟩ := h
  cases hg : aget L x with
  | none =>
    refine ⟨_, .map (es.push { key := E.enc x, val := v, born := clock }) (clock + 1), hb, fun wx hx => ?_, fun wx hx => ⟨_, _, hx, stamped_push hs ?_, ?_⟩⟩
    · have hf := E.find wx x hL
      rw [hg] at hf
      simp [Instr.mapUpdate, run_underlying ht, MapKept.run_getObj_map hx, E.check, hf, run_setObj_map _ hx, Result.andThen, setObjAt]
    · intro y hy
      have hmem : (y.key, y.val) ∈ L.map (fun p => (E.enc p.1, p.2)) := hL ▸ List.mem_map.2 ⟨y, hy, rfl⟩
      obtain ⟨p, hp, hpe⟩ := List.mem_map.1 hmem
      intro e
      have : E.enc p.1 = E.enc x := (congrArg Prod.fst hpe).trans e
      exact aget_none hg p hp (E.inj _ _ this)
    · simp [hL, aput_new hg]
  | some u =>
    have hi := get_findIdx hg
    have hi' : es[(L.findIdx fun p => p.1 = x)]?.map (fun y => (y.key, y.val)) = some (E.enc x, u) := by
      have := congrArg (fun l => l[(L.findIdx fun p => p.1 = x)]?) hL
      simp only [List.getElem?_map, Array.getElem?_toList, hi, Option.map_some] at this
      exact this
    obtain ⟨y, hy, hye⟩ := Option.map_eq_some_iff.1 hi'
    have hyk : y.key = E.enc x := congrArg Prod.fst hye
    refine ⟨_, .map (es.modify (L.findIdx fun p => p.1 = x) fun e => { e with key := E.enc x, val := v }) clock, hb, fun wx hx => ?_, fun wx hx => ⟨_, _, hx, stamped_modify hs _ _ (fun _ _ => rfl) ?_, ?_⟩⟩
    · have hf := E.find wx x hL
      rw [hg] at hf
      simp only [Option.map_some] at hf
      simp [Instr.mapUpdate, run_underlying ht, MapKept.run_getObj_map hx, E.check, hf, run_setObj_map _ hx, Result.andThen, setObjAt, hy, hyk, E.stays]
    · intro e _ he
      rw [hy] at he
      cases he
      exact hyk.symm
    · rw [aput_mod hg]
      apply List.ext_getElem?
      intro j
      have hj := congrArg (fun l => l[j]?) hL
      simp only [List.getElem?_map, Array.getElem?_toList, Array.getElem?_modify, List.getElem?_modify] at hj ⊢
      by_cases hij : (L.findIdx fun p => p.1 = x) = j
      · subst hij
        simp [hy, hi]
      · simp [hij, hj]
/-- An entry taken, then stored. -/
theorem MapAt.entry {t et : TypeId} (h : MapAt E.enc w b L) (ht : P.underlying t = some (.map kt et)) {z : Value} (hz : ∀ w, (zeroValue et).run P w = .ok z w) (x : κ) (v : Value) :
    ∃ O0 v0 st o1 o2, w.heap[b]? = some O0 ∧ (∀ wx, wx.heap[b]? = some O0 → (Instr.mapEntry t (.map (some b)) (E.enc x)).run P wx = .ok (.tuple #[v0, .int .i64 st]) (setObjAt wx b o1)) ∧
      (∀ wx, wx.heap[b]? = some o1 → (Instr.entryStore t (.map (some b)) (.int .i64 st) v).run P wx = .ok () (setObjAt wx b o2)) ∧ ∀ wx, wx.heap[b]? = some o2 → MapAt E.enc wx b (aput L x v) := by
  obtain ⟨es, clock, hb, hs, hL⟩ := h
  have ⟨s1, s2, _⟩ := hs
  cases hg : aget L x with
  | none =>
    have hst : Stamped (es.push ⟨E.enc x, v, clock⟩) (clock + 1) := stamped_push hs (by
      intro y hy
      have hmem : (y.key, y.val) ∈ L.map (fun p => (E.enc p.1, p.2)) := hL ▸ List.mem_map.2 ⟨y, hy, rfl⟩
      obtain ⟨p, hp, hpe⟩ := List.mem_map.1 hmem
      intro e
      have : E.enc p.1 = E.enc x := (congrArg Prod.fst hpe).trans e
      exact aget_none hg p hp (E.inj _ _ this))
    refine ⟨_, z, (clock : Int), .map (es.push ⟨E.enc x, z, clock⟩) (clock + 1), .map (es.push ⟨E.enc x, v, clock⟩) (clock + 1), hb, fun wx hx => ?_, fun wx hx => ?_, fun wx hx => ⟨_, _, hx, hst, by simp [hL, aput_new hg]⟩⟩
    · have hf := E.find wx x hL
      rw [hg] at hf
      simp [Instr.mapEntry, run_underlying ht, MapKept.run_getObj_map hx, E.check, hf, hz, run_setObj_map _ hx, Result.andThen, setObjAt, goInt]
    · have hidx : (es.push ⟨E.enc x, z, clock⟩).findIdx? (fun e => ((e.born : Nat) : Int) == ((clock : Nat) : Int)) = some es.size := by
        rw [WideElems.findIdx_arr]
        have := WideElems.findIdx_born (l := (es.push ⟨E.enc x, z, clock⟩).toList) (j := es.size) (e0 := ⟨E.enc x, z, clock⟩) (by
          simp only [Array.toList_push, List.map_append, List.map_cons, List.map_nil]
          refine List.nodup_append.2 ⟨s2, by simp, fun a ha c hc e1 => ?_⟩
          simp only [List.mem_singleton] at hc
          obtain ⟨y, hy, rfl⟩ := List.mem_map.1 ha
          have := s1 y hy
          omega) (by simp)
        exact this
      have hmod : (es.push ⟨E.enc x, z, clock⟩).modify es.size (fun e => { e with val := v }) = es.push ⟨E.enc x, v, clock⟩ := by
        apply Array.ext'
        rw [Array.toList_modify, Array.toList_push, Array.toList_push, ← Array.length_toList, WideElems.modify_last]
      simp [Instr.entryStore, MapKept.run_getObj_map hx, asInt, asIntOf, goInt, hidx, hmod, run_setObj_map _ hx, Result.andThen, setObjAt]
  | some u =>
    have hi := get_findIdx hg
    have hi' : es[(L.findIdx fun p => p.1 = x)]?.map (fun y => (y.key, y.val)) = some (E.enc x, u) := by
      have := congrArg (fun l => l[(L.findIdx fun p => p.1 = x)]?) hL
      simp only [List.getElem?_map, Array.getElem?_toList, hi, Option.map_some] at this
      exact this
    obtain ⟨y, hy, hye⟩ := Option.map_eq_some_iff.1 hi'
    have hyk : y.key = E.enc x := congrArg Prod.fst hye
    generalize hj : (L.findIdx fun p => p.1 = x) = j at hi hi' hy
    have hyl : es.toList[j]? = some y := by simpa using hy
    have hsame : es.modify j (fun e => { e with key := E.enc x }) = es := by
      apply Array.ext'
      apply List.ext_getElem?
      intro i
      simp only [Array.toList_modify, List.getElem?_modify]
      by_cases hij : j = i
      · subst hij
        simp [hy, ← hyk]
      · simp [hij]
    refine ⟨_, u, (y.born : Int), .map es clock, .map (es.modify j fun e => { e with val := v }) clock, hb, fun wx hx => ?_, fun wx hx => ?_, fun wx hx => ⟨_, _, hx, stamped_modify hs _ _ (fun _ _ => rfl) (fun _ _ _ => rfl), ?_⟩⟩
    · have hf := E.find wx x hL
      rw [hg] at hf
      simp only [Option.map_some, hj] at hf
      have hyv : y.val = u := congrArg Prod.snd hye
      simp [Instr.mapEntry, run_underlying ht, MapKept.run_getObj_map hx, E.check, hf, run_setObj_map _ hx, Result.andThen, setObjAt, hy, hyk, hyv, E.stays, hsame, goInt]
    · have hidx : es.findIdx? (fun e => ((e.born : Nat) : Int) == ((y.born : Nat) : Int)) = some j := by
        rw [WideElems.findIdx_arr]
        exact WideElems.findIdx_born s2 hyl
      simp [Instr.entryStore, MapKept.run_getObj_map hx, asInt, asIntOf, goInt, hidx, run_setObj_map _ hx, Result.andThen, setObjAt]
    · rw [aput_mod hg, hj]
      apply List.ext_getElem?
      intro i
      have hl := congrArg (fun l => l[i]?) hL
      simp only [List.getElem?_map, Array.getElem?_toList, Array.getElem?_modify, List.getElem?_modify] at hl ⊢
      by_cases hij : j = i
      · subst hij
        simp [hy, hi, hyk]
      · simp [hij, hl]
end
end Go.Proofs.Ytegbiekfpcfnnaa.Fx
