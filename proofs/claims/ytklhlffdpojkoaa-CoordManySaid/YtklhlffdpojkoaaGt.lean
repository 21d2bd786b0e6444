/-
  A member syncs: the walk.
-/
import Derived.Test.YtklhlffdpojkoaaGs
namespace Go.Proofs.Ytklhlffdpojkoaa
open Go.RowKit Go.Shelf Fx

theorem still_top : Still rTop := fun _ _ _ _ h => h
def partsOf (g : GroupC) (m : Int) : List PartC := ((g.ones.find? fun o => o.member == m).map OneC.parts).getD []
theorem parts_at {g : GroupC} {m : Int} (hr : g.ones.Pairwise MemLt) {i : Nat} (hi : i < g.ones.length) (e : g.ones[i].member = m) : partsOf g m = g.ones[i].parts := by
  unfold partsOf
  have h1 : g.ones.find? (fun o => o.member == m) = some g.ones[i] := by
    rw [List.find?_eq_some_iff_getElem]
    refine ⟨by simpa using e, i, hi, rfl, fun j hj => ?_⟩
    have := List.pairwise_iff_getElem.1 hr j i (by omega) hi hj
    unfold MemLt at this
    simp
    omega
  rw [h1]
  rfl
def syncTouch (g : GroupC) (m now : Int) : GroupC := touchG g m (now + g.session)
def syncE (g : GroupC) (m gn : Int) (tops : List TopC) (now : Int) : Int :=
  if timeOk now then
    if knownE g m gn = 0 then
      if g.phase = 1 then 13
      else if g.phase = 2 then (if m = leaderOf g then chk (subsOf (syncTouch g m now)) tops else 13)
      else 0
    else knownE g m gn
  else 1
def syncG (g : GroupC) (m gn : Int) (tops : List TopC) (round : Bool) (now : Int) : GroupC :=
  if timeOk now then
    if knownE g m gn = 0 then
      if g.phase = 1 then g
      else if g.phase = 2 then (if m = leaderOf g then (if chk (subsOf (syncTouch g m now)) tops = 0 then shareG (syncTouch g m now) (dealL round (subsOf (syncTouch g m now)) tops) else syncTouch g m now) else syncTouch g m now)
      else syncTouch g m now
    else g
  else g
theorem WfG.touch {g : GroupC} (h : WfG g) (m t : Int) : WfG (touchG g m t) :=
  h.same (by simp [touchG]) (fun i hi => by simp only [touchG, List.getElem_map, touchO]; split <;> rfl) rfl rfl rfl h.gen
theorem WfG.share {g : GroupC} (h : WfG g) (l : List ShareC) : WfG (shareG g l) :=
  h.same (by simp [shareG, enterG]) (fun i hi => by simp [shareG, enterG, partO]) rfl rfl rfl h.gen
/-- What Sync leaves, told. -/
def SyncPost (w : World) (F : Nat → Prop) (b : Nat) (g g' : GroupC) (m er : Int) (e : Ending) (w' : World) : Prop :=
  ∃ pv F', e = .returned (.tuple #[pv, .int .i64 er]) ∧ Grp w' F' b g' ∧ (∀ k, F' k → F k ∨ w.heap.size ≤ k) ∧ Keeps F w w' ∧ (er = 0 → Out 2 rPart w' (fun k => ¬ F' k ∧ w.heap.size ≤ k) pv (partsOf g' m)) ∧ (¬ er = 0 → pv = .slice none 0 0)
theorem SyncPost.err {w w' : World} {F : Nat → Prop} {b : Nat} {g g' : GroupC} {m er : Int} (he : ¬ er = 0) (h : GrpPost w F b g' w') : SyncPost w F b g g' m er (.returned (.tuple #[.slice none 0 0, .int .i64 er])) w' := by
  obtain ⟨F', h1, h2, h3⟩ := h
  exact ⟨_, F', rfl, h1, h2, h3, fun e => absurd e he, fun _ => rfl⟩
/-- A copy of the member's parts is answered. -/
theorem SyncPost.ok {w w1 w' : World} {F F' : Nat → Prop} {b r cap i : Nat} {g g' : GroupC} {m : Int} {L : List OneV} {pv : Value} (hg : GrpAt w1 F' b g' (.slice (some ⟨r, 0, none⟩) L.length cap) L) (hw : WfG g') (hF : ∀ k, F' k → F k ∨ w.heap.size ≤ k) (hk : Keeps F w w1)
    (hi : i < L.length) (hm : L[i].member = m) (ho : Out 2 rPart w' (fun k => w1.heap.size ≤ k) pv L[i].parts) (hk2 : K0 w1 w') : SyncPost w F b g g' m 0 (.returned (.tuple #[pv, .int .i64 0])) w' := by
  refine ⟨pv, F', rfl, ⟨_, L, hg.keep hk2 fun _ _ e => e⟩, hF, hk.trans hk2 fun _ _ e => e.elim, fun _ => ?_, fun h => absurd rfl h⟩
  have hi' : i < g'.ones.length := by rw [hg.glen]; exact hi
  have hc : g'.ones[i] = L[i].core := by simp only [← hg.ones, List.getElem_map]
  rw [parts_at hw.pair hi' (by rw [hc]; exact hm), hc]
  exact ho.keep still_part (Keeps.refl (fun _ => False) _) (fun _ _ _ e => e) (fun k _ e => ⟨fun e2 => by have := hg.lt k e2; have e : w1.heap.size ≤ k := e; omega, Nat.le_trans hk.size e⟩)
end Go.Proofs.Ytklhlffdpojkoaa
