/-
  The document's Put: a number's bytes.
-/
import Derived.Test.YtbjpifipjcfhkaaVa
import Derived.Test.YtbjpifipjcfhkaaMq
import Derived.Test.YtbjpifipjcfhkaaAp
import Derived.Laws.BytesArg
import Derived.Laws.BitsLemmas
import Derived.Laws.Bits64
import Derived.Laws.Bits64b
import Derived.OwnWalk
import Derived.WalkMore
import Derived.WalkKit
import Derived.WalkSpells
import Derived.WalkLawsBesides
import Derived.Deep.QuietTactic
import Derived.BigQuiet
import Derived.Outline
import Derived.Lib.Hide
namespace Go.Proofs.Ytbjpifipjcfhkaa
open Go.RowKit Fx

def bytesN (l : List Nat) : ByteArray := strOfNums (l.map fun b : Nat => (b : Int))
def putB (n : Int) : ByteArray := bytesN (encU (zz n))
theorem own_sliceV {w : World} {base : Nat} {e : TypeId} {size : Nat} {v : Value} {n : Nat} {xs : List Value} (h : w.ownsRow base e size v n xs) : ∃ a c, v = .slice a n c := by
  rcases h.2 with ⟨rfl, rfl⟩ | ⟨g, cap, cur, rfl, _⟩
  · exact ⟨_, _, rfl⟩
  · exact ⟨_, _, rfl⟩
theorem infoU8v : (Try.prog.info? 5).map (fun i => (i.zero, i.size, i.bytes)) = some (some (.int .u8 0), 1, 1) := by kernel_rfl
def cellsN (l : List Nat) : List Value := l.map fun b : Nat => .int .u8 (b : Int)
theorem conv_row {w : World} {base g n cap : Nat} {l : List Nat} (h : w.ownsRow base 5 1 (.slice (some ⟨g, 0, none⟩) n cap) n (cellsN l)) : (convert 94 9 (.slice (some ⟨g, 0, none⟩) n cap)).run Try.prog w = .ok (.string (bytesN l)) w := by
  have hl : (cellsN l).length = n * 1 := h.1
  have hl2 : l.length = n := by simpa [cellsN] using hl
  refine run_convert_bytes_arg w 94 5 Try.underlying94 Try.underlying5 g 0 n cap (l.map fun b : Nat => (b : Int)) (by simpa using hl2) (fun j hj => ?_) 9 Try.underlying9
  rw [Nat.zero_add, h.cellAt j (by omega)]
  have hj2 : j < l.length := by omega
  simp [cellsN, hj2]
/-- Where writing a number is: what was written, what is still to be. -/
structure PutR (w : World) (n u : Nat) (done : List Nat) (v : Value) (wr : World) : Prop where
  enc : encU n = done ++ encU u
  lt : u < 18446744073709551616
  len : done.length ≤ 10
  own : wr.ownsRow w.heap.size 5 1 v done.length (cellsN done)
  k0 : K0 w wr
theorem PutR.start {w : World} {n : Nat} (h : n < 18446744073709551616) : PutR w n n [] (.slice none 0 0) w := ⟨rfl, h, by simp, World.ownsRow_nil _ _ _ _, Keeps.refl _ _⟩
theorem PutR.step {w wr w2 : World} {n u g cap : Nat} {done : List Nat} {v : Value} {o : Obj} (h : PutR w n u done v wr) (hu : ¬ u < 128) (hn : n < 18446744073709551616) (hA : App1 (wr.alloc o) w.heap.size 5 1 v done.length (cellsN done ++ [.int .u8 ((u : Int) % 128 + 128)]) g cap w2) :
    PutR w n (u / 128) (done ++ [u % 128 + 128]) (.slice (some ⟨g, 0, none⟩) (done.length + 1) cap) w2 := by
  have he : encU n = (done ++ [u % 128 + 128]) ++ encU (u / 128) := by rw [h.enc, encU_more hu, List.append_assoc]; rfl
  have hl := enc_len hn
  rw [he, List.length_append] at hl
  refine ⟨he, by have := h.lt; omega, by omega, ?_, (h.k0.alloc _).grown hA.grown (fun k e hlt => absurd (h.own.lt k e).1 (by omega))⟩
  rw [List.length_append]
  have h1 := hA.own
  rw [show (u : Int) % 128 + 128 = ((u % 128 + 128 : Nat) : Int) by omega] at h1
  simpa only [cellsN, List.map_append, List.map_cons, List.map_nil, List.length_cons, List.length_nil, Nat.zero_add] using h1
/-- What is written at the end. -/
theorem PutR.stop {w wr w2 : World} {n u g cap : Nat} {done : List Nat} {v : Value} {o : Obj} (h : PutR w n u done v wr) (hu : u < 128) (hA : App1 (wr.alloc o) w.heap.size 5 1 v done.length (cellsN done ++ [.int .u8 (u : Int)]) g cap w2) :
    (convert 94 9 (.slice (some ⟨g, 0, none⟩) (done.length + 1) cap)).run Try.prog w2 = .ok (.string (bytesN (encU n))) w2 ∧ K0 w w2 := by
  refine ⟨?_, (h.k0.alloc _).grown hA.grown (fun k e hlt => absurd (h.own.lt k e).1 (by omega))⟩
  rw [h.enc, encU_small hu]
  refine conv_row (base := w.heap.size) (l := done ++ [u]) ?_
  have := hA.own
  simpa [cellsN] using this
set_option maxRecDepth 100000 in
set_option maxHeartbeats 4000000 in
theorem rvput_any (n : Int) (w : World) (hn : -9223372036854775808 ≤ n ∧ n ≤ 9223372036854775807) :
    Calls Try.prog 35 #[.int .i64 n] w fun e w' => e = .returned (.string (putB n)) ∧ K0 w w' := by
  have HZ0 := zz_lt hn
  have hcase : (n < 0 ∧ ∃ (m N : Nat), n = -((m : Int) + 1) ∧ zz n = N ∧ IntKind.u64.wrap (IntKind.u64.wrap (IntKind.u64.wrap (wrap64 (-wrap64 (-((m : Int) + 1) + 1))) * 2) + 1) = (N : Int)) ∨ (¬ n < 0 ∧ ∃ (m N : Nat), n = m ∧ zz n = N ∧ IntKind.u64.wrap (IntKind.u64.wrap (IntKind.u64.wrap (m : Int) * 2)) = (N : Int)) := by
    by_cases h0 : n < 0
    · refine .inl ⟨h0, (-(n + 1)).toNat, zz n, by omega, rfl, ?_⟩
      have hz : zz n = 2 * (-(n + 1)).toNat + 1 := by unfold zz; rw [if_pos h0]
      rw [hz] at HZ0 ⊢
      simp only [IntKind.wrap_u64, wrap64]
      omega
    · refine .inr ⟨h0, n.toNat, zz n, by omega, rfl, ?_⟩
      have hz : zz n = 2 * n.toNat := zz_nat (by omega)
      rw [hz] at HZ0 ⊢
      simp only [IntKind.wrap_u64]
      omega
  rcases hcase with ⟨h0, m, N, rfl, hN, hw⟩ | ⟨h0, m, N, rfl, hN, hw⟩
  all_goals
    rw [hN] at HZ0
    have HZ := Lib.hid HZ0
    have HN := Lib.hid hN
    have HW := Lib.hid hw
    clear hn hw hN HZ0
    go_enter Try.func35, Try.ntmps35
    go_wp2
    rw [HW.out]
    go_loopw [4, 5] (fun uv v wr => ∃ (u : Nat) (done : List Nat), uv = .int .u64 (u : Nat) ∧ PutR w N u done v wr) (fun uv _ _ => (intOf uv).toNat)
    case atStart => exact ⟨N, [], rfl, PutR.start HZ.out⟩
    case round =>
      obtain ⟨u, done, rfl, hr⟩ := hrel
      have HR := Lib.hid hr
      have hown := hr.own
      have HL := Lib.hid hr.lt
      have hdl := hr.len
      have hz := hr.k0.size
      obtain ⟨va, vc, rfl⟩ := own_sliceV hown
      clear hr
      by_cases hu : u < 128
      · have i1 : (u : Int) < 128 := by omega
        have i0 : (0 : Int) ≤ u := by omega
        have HU := Lib.hid hu
        go_wp2_with (at_builtin; refine wpList_app1 (v := .slice va done.length vc) rfl rfl Try.underlying94 infoU8v rfl (by decide) rfl (hown.alloc _) rfl (heap_new _ _ _ rfl) rfl rfl ⟨by omega, by decide⟩ (by simp; omega) ?_; intro g1 cap1 w1 hA; obtain ⟨hcv, hk1⟩ := HR.out.stop HU.out hA; have HK := Lib.hid hk1; clear hA hk1)
        go_ret
        exact ⟨by unfold putB; rw [HN.out]; rfl, HK.out⟩
      · have i1 : (128 : Int) ≤ u := by omega
        have HU := Lib.hid hu
        have HQ : Hid (IntKind.u64.wrap ((u : Int) / 128) = ((u / 128 : Nat) : Int)) := by
          show _ = _
          have := HL.out
          simp only [IntKind.wrap_u64]
          omega
        go_wp2_with (at_builtin; refine wpList_app1 (v := .slice va done.length vc) rfl rfl Try.underlying94 infoU8v rfl (by decide) rfl (hown.alloc _) rfl (heap_new _ _ _ rfl) rfl rfl ⟨by omega, by decide⟩ (by simp; omega) ?_; intro g1 cap1 w1 hA; have hst := Lib.hid (HR.out.step HU.out HZ.out hA); clear hA)
        rw [HQ.out]
        go_roundw
        case rel => exact ⟨u / 128, done ++ [u % 128 + 128], rfl, hst.out⟩
        case measure => simp only [intOf]; omega
end Go.Proofs.Ytbjpifipjcfhkaa
