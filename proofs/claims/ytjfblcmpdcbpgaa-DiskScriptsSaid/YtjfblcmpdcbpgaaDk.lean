/-
  How a walk of a law of this seat is lifted to its row.
-/
import Derived.Test.YtjfblcmpdcbpgaaDj
import Derived.ProofKit
import Derived.OpenShut
import Derived.ShutString
import Derived.ChangeOld
namespace Go.Proofs.Ytjfblcmpdcbpgaa
open Go.ChangeShapes Go.WideShapes Go.ChangeAt Go.RowKit Fx
open Go.ChangeMaps (open_string shut_string)
theorem own : ownKnob Try.prog.godebug = none := by kernel_rfl
theorem laidOut : laidOutB Try.prog = true := by kernel_rfl

/-- Arguments that were read read the same, where nothing of them has turned. -/
theorem trodAll_below {H : Type} {enc : TypeId × Value → H} {P : Program} (hl : laidOutB P = true) {W W' : World} (hb : Below W.heap.size W W') :
    ∀ {ts : List TypeId} {vs : List Value} {ds : List (DataW H)} {ps : List MemPlace}, (∀ t ∈ ts, P.readableRec t = true ∧ t < P.types.size) →
      DataW.TrodAll enc P W 0 (fun _ => true) true ts vs ds ps → DataW.TrodAll enc P W' 0 (fun b => decide (b < W.heap.size)) true ts vs ds ps
  | [], [], [], _, _, h => h
  | t :: ts, v :: vs, d :: ds, _, hr, ⟨p, q, h1, h2, e⟩ => by
    have lt0 : ∀ x ∈ p, x.block < W.heap.size := by obtain ⟨m, hm⟩ := h1; exact DataW.trod_lt m _ _ _ hm
    exact ⟨p, q, Below.trod hl (hr t (by simp)).1 (hr t (by simp)).2 h1 hb lt0, trodAll_below hl hb (fun t ht => hr t (by simp [ht])) h2, e⟩
  | [], [], _ :: _, _, _, h => h.elim
  | [], _ :: _, _, _, _, h => by cases h
  | _ :: _, [], _, _, _, h => by cases h
  | _ :: _, _ :: _, [], _, _, h => by cases h
theorem readInt : Try.prog.readableRec 3 = true ∧ 3 < Try.prog.types.size := ⟨by kernel_rfl, of_decide_eq_true (by kernel_rfl)⟩
/-- A row of whole numbers that came in. -/
theorem ints_of {w : World} {a : Option Addr} {cap : Nat} {l : List Int} (h : SlAt 1 rInt w a cap l) : Ints w (fun _ => True) a l := by
  refine ⟨Nat.le_trans h.1 h.2.1, fun hne => ?_⟩
  obtain ⟨b, off, rfl, hr⟩ := h.2.2 hne
  have hc : ∀ i (hi : i < l.length), w.cell? ⟨b, off + i, none⟩ = some (.int .i64 l[i]) ∧ (Lit.int .i64 l[i]).wf = true := fun i hi => by
    obtain ⟨cs, h1, h2, h3, h4⟩ := hr i hi
    have h5 := h2 0 (by omega)
    rw [h3] at h5
    simp only [Nat.mul_one, Nat.add_zero] at h5
    exact ⟨h5, h4⟩
  refine ⟨b, off, rfl, World.block_lt_of_cell? w _ (hc 0 (List.length_pos_iff.2 hne)).1, trivial, fun i hi => ⟨(hc i hi).1, ?_⟩⟩
  have := (hc i hi).2
  simp only [Lit.wf, Bool.and_eq_true, decide_eq_true_eq] at this
  exact ⟨this.1, this.2⟩
end Go.Proofs.Ytjfblcmpdcbpgaa
