/-
  The laws' script of calls as it reads; step for every call; CoordScripts, walked.
-/
import Derived.Test.YtklhlffdpojkoaaGreatJ30
import Derived.Test.YtklhlffdpojkoaaGreatJ31
import Derived.Test.YtklhlffdpojkoaaGreatJ32
import Derived.Test.YtklhlffdpojkoaaGreatJ33
import Derived.Test.YtklhlffdpojkoaaGreatJ34
import Derived.Test.YtklhlffdpojkoaaGreatJ35
import Derived.Test.YtklhlffdpojkoaaGreatJ36
import Derived.Test.YtklhlffdpojkoaaGreatJ37
import Derived.Test.YtklhlffdpojkoaaGreatJ38
import Derived.Lib.SmallJoins
import Derived.ProofKit
import Derived.OpenShut
import Derived.ShutString
import Derived.ChangeOld
namespace Go.Proofs.YtklhlffdpojkoaaGreat
open Go.ChangeShapes Go.WideShapes Go.ChangeAt Go.RowKit Go.Shelf Fx

structure OpV where
  do_ : Int
  s : ByteArray
  m : Int
  topics : List ByteArray
  gn : Int
  parts : List TopC
  rd : Bool
  pt : ByteArray
  pi : Int
  at_ : Int
  now : Int
  ta : Option Addr
  tc : Nat
  pa : Option Addr
  pc : Nat
def opCells (o : OpV) : Array Value := #[.int .i64 o.do_, .string o.s, .int .i64 o.m, .slice o.ta o.topics.length o.tc, .int .i64 o.gn, .slice o.pa o.parts.length o.pc, .bool o.rd, .string o.pt, .int .i64 o.pi, .int .i64 o.at_, .int .i64 o.now]
def rOpV : Rdr OpV := fun w cs o => cs = [.int .i64 o.do_, .string o.s, .int .i64 o.m, .slice o.ta o.topics.length o.tc, .int .i64 o.gn, .slice o.pa o.parts.length o.pc, .bool o.rd, .string o.pt, .int .i64 o.pi, .int .i64 o.at_, .int .i64 o.now] ∧ o.s.size ≤ maxLen ∧ o.pt.size ≤ maxLen ∧ SlAt 1 rStr w o.ta o.tc o.topics ∧ SlAt 2 rTop w o.pa o.pc o.parts ∧ I64 o.m
theorem step_all {E : Nat → Prop} {w0 wb w : World} {cb kb tb n : Nat} {C R : CoordC} (h : JC E w0 wb w cb C kb R tb) (hg : GoodC C R (n + 40)) (o : OpV) (hm : I64 o.m) (hs : o.s.size ≤ maxLen) (hpt : o.pt.size ≤ maxLen) (htl : o.topics.length ≤ 1000) (ht : Out 1 rStr w0 (fun _ => True) (.slice o.ta o.topics.length o.tc) o.topics) (hp : Out 2 rTop w0 (fun _ => True) (.slice o.pa o.parts.length o.pc) o.parts) :
    Calls Tryz.prog 10 #[.pointer (some ⟨cb, 0, none⟩), .pointer (some ⟨kb, 0, none⟩), .agg #[.int .i64 o.do_, .string o.s, .int .i64 o.m, .slice o.ta o.topics.length o.tc, .int .i64 o.gn, .slice o.pa o.parts.length o.pc, .bool o.rd, .string o.pt, .int .i64 o.pi, .int .i64 o.at_, .int .i64 o.now]] w (StepQ E w0 wb cb C kb o.s (0 ≤ o.do_ ∧ o.do_ ≤ 5) n) := by
  obtain ⟨d, s, m, topics, gn, parts, rd, pt, pi, at_, now, ta, tc, pa, pc⟩ := o
  unfold maxLen at hs hpt
  dsimp only at hm hs hpt htl ht hp ⊢
  have up : ∀ (ap : Prop) e w', StepQ E w0 wb cb C kb s ap n e w' → ((0 ≤ d ∧ d ≤ 5) → ap) → StepQ E w0 wb cb C kb s (0 ≤ d ∧ d ≤ 5) n e w' := fun ap e w' hq hap => by
    obtain ⟨h1, C', R', tb', h2, h3, h4⟩ := hq
    exact ⟨h1, C', R', tb', h2, h3, fun e => h4 (hap e)⟩
  by_cases h0 : d = 0
  · subst h0; exact (step_0 h hg hm (by omega) (by omega) htl ht hp).mono fun e w' hq => up _ _ _ hq (fun _ => trivial)
  by_cases h1 : d = 1
  · subst h1; exact (step_1 h hg hm (by omega) (by omega) htl ht hp).mono fun e w' hq => up _ _ _ hq (fun _ => trivial)
  by_cases h2 : d = 2
  · subst h2; exact (step_2 h hg hm (by omega) (by omega) htl ht hp).mono fun e w' hq => up _ _ _ hq (fun _ => trivial)
  by_cases h3 : d = 3
  · subst h3; exact (step_3 h hg hm (by omega) (by omega) htl ht hp).mono fun e w' hq => up _ _ _ hq (fun _ => trivial)
  by_cases h4 : d = 4
  · subst h4; exact (step_4 h hg hm (by omega) (by omega) htl ht hp).mono fun e w' hq => up _ _ _ hq (fun _ => trivial)
  by_cases h5 : d = 5
  · subst h5; exact (step_5 h hg hm (by omega) (by omega) htl ht hp).mono fun e w' hq => up _ _ _ hq (fun _ => trivial)
  by_cases h6 : d = 6
  · subst h6; exact (step_6 h hg hm (by omega) (by omega) htl ht hp).mono fun e w' hq => up _ _ _ hq (fun e => by omega)
  exact (step_d h hg hm (by omega) (by omega) htl ht hp ⟨h0, h1, h2, h3, h4, h5, h6⟩).mono fun e w' hq => up _ _ _ hq (fun e => by omega)
theorem own : ownKnob Tryz.prog.godebug = none := by kernel_rfl
theorem laidOut : laidOutB Tryz.prog = true := by kernel_rfl
/-- Arguments that were read read the same, where nothing of them has turned. -/
theorem trodAll_below {H : Type} {enc : TypeId × Value → H} {P : Program} (hl : laidOutB P = true) {W W' : World} (hb : Below W.heap.size W W') :
    ∀ {ts : List TypeId} {vs : List Value} {ds : List (DataW H)} {ps : List MemPlace}, (∀ t ∈ ts, P.readableRec t = true ∧ t < P.types.size) →
      DataW.TrodAll enc P W 0 (fun _ => true) true ts vs ds ps → DataW.TrodAll enc P W' 0 (fun b => decide (b < W.heap.size)) true ts vs ds ps
  | [], [], [], _, _, h => h
  | t :: ts, v :: vs, d :: ds, _, hr, ⟨p, q, h1, h2, e⟩ => by
    have lt0 : ∀ x ∈ p, x.block < W.heap.size := by obtain ⟨m, hm⟩ := h1; exact DataW.trod_lt m _ _ _ hm
    exact ⟨p, q, Below.trod hl (hr t (by simp)).1 (hr t (by simp)).2 h1 hb lt0, trodAll_below hl hb (fun t ht => hr t (by simp [ht])) h2, e⟩
  | [], [], _ :: _, _, _, h => h.elim
  | [], _ :: _, _, _, _, h => by cases h
  | _ :: _, [], _, _, _, h => by cases h
  | _ :: _, _ :: _, [], _, _, h => by cases h
theorem cellsInt : Tryz.prog.cellsOf 3 = 1 := by kernel_rfl
theorem cellsBool : Tryz.prog.cellsOf 4 = 1 := by kernel_rfl
theorem cellsStr : Tryz.prog.cellsOf 9 = 1 := by kernel_rfl
theorem cellsStrs : Tryz.prog.cellsOf 31 = 1 := by kernel_rfl
theorem cellsTops : Tryz.prog.cellsOf 32 = 1 := by kernel_rfl
theorem cellsTop : Tryz.prog.cellsOf 152 = 2 := by kernel_rfl
theorem cellsPart : Tryz.prog.cellsOf 34 = 2 := by kernel_rfl
theorem cellsOp : Tryz.prog.cellsOf 36 = 11 := by kernel_rfl
theorem two {α : Type} (l : List α) (h : l.length = 2) : ∃ a b, l = [a, b] := by
  match l, h with
  | [a, b], _ => exact ⟨a, b, rfl⟩
theorem ten {α : Type} (l : List α) (h : l.length = 10) : ∃ a b c d e f g i j k, l = [a, b, c, d, e, f, g, i, j, k] := by
  match l, h with
  | [a, b, c, d, e, f, g, i, j, k], _ => exact ⟨a, b, c, d, e, f, g, i, j, k, rfl⟩
theorem eleven {α : Type} (l : List α) (h : l.length = 11) : ∃ a b c d e f g i j k m, l = [a, b, c, d, e, f, g, i, j, k, m] := by
  match l, h with
  | [a, b, c, d, e, f, g, i, j, k, m], _ => exact ⟨a, b, c, d, e, f, g, i, j, k, m, rfl⟩
section
variable {H : Type} {enc : TypeId × Value → H} {w : World} {base : Nat} {spare : Nat → Bool} {held : Bool}
theorem part_of {fuel : Nat} {cs : List Value} {x : DataW H × List MemPlace}
    (h : DataW.trod enc Tryz.prog w base spare held fuel 34 cs = some x) : ∃ (t : ByteArray) (i : Int), cs = [.string t, .int .i64 i] ∧ t.size ≤ maxLen := by
  obtain ⟨y0, y1, n, _, hl, h0, h1⟩ := trod_struct2 Tryz.underlying34 h
  rw [cellsPart] at hl
  obtain ⟨v0, v1, rfl⟩ := two cs hl
  simp only [cellsInt, cellsStr] at h0 h1
  obtain ⟨s, e0, _, hz⟩ := DataW.trod_string Tryz.underlying9 h0
  obtain ⟨a, e1, _, _⟩ := DataW.trod_int Tryz.underlying3 h1
  simp at e0 e1
  exact ⟨s, a, by rw [e0, e1], hz⟩
theorem top_ofZ (fuel : Nat) (cs : List Value) (x : DataW H × List MemPlace) (h : DataW.trod enc Tryz.prog w base spare held fuel 152 cs = some x) : ∃ y, rTop w cs y := by
  obtain ⟨y0, y1, n, _, hl, h0, h1⟩ := trod_struct2 Tryz.underlying152 h
  rw [cellsTop] at hl
  obtain ⟨v0, v1, rfl⟩ := two cs hl
  simp only [cellsInt, cellsStr] at h0 h1
  obtain ⟨s, e0, _, hz⟩ := DataW.trod_string Tryz.underlying9 h0
  obtain ⟨a, e1, _, hw⟩ := DataW.trod_int Tryz.underlying3 h1
  simp at e0 e1
  exact ⟨⟨s, a⟩, by rw [e0, e1], hw⟩
theorem op_of (fuel : Nat) (cs : List Value) (x : DataW H × List MemPlace) (h : DataW.trod enc Tryz.prog w base spare held fuel 36 cs = some x) : ∃ o, rOpV w cs o := by
  obtain ⟨xs, n, _, rfl, hl, hlen, hf⟩ := DataW.trod_struct Tryz.underlying36 h
  rw [cellsOp] at hl
  obtain ⟨v0, v1, v2, v3, v4, v5, v6, v7, v8, v9, v10, rfl⟩ := eleven cs hl
  obtain ⟨y0, y1, y2, y3, y4, y5, y6, y7, y8, y9, rfl⟩ := ten xs hlen
  have h0 : DataW.trod enc Tryz.prog w base spare held n 3 (([v0, v1, v2, v3, v4, v5, v6, v7, v8, v9, v10].drop 0).take (Tryz.prog.cellsOf 3)) = some y0 := hf 0 _ rfl
  have h1 : DataW.trod enc Tryz.prog w base spare held n 9 (([v0, v1, v2, v3, v4, v5, v6, v7, v8, v9, v10].drop 1).take (Tryz.prog.cellsOf 9)) = some y1 := hf 1 _ rfl
  have h2 : DataW.trod enc Tryz.prog w base spare held n 3 (([v0, v1, v2, v3, v4, v5, v6, v7, v8, v9, v10].drop 2).take (Tryz.prog.cellsOf 3)) = some y2 := hf 2 _ rfl
  have h3 : DataW.trod enc Tryz.prog w base spare held n 31 (([v0, v1, v2, v3, v4, v5, v6, v7, v8, v9, v10].drop 3).take (Tryz.prog.cellsOf 31)) = some y3 := hf 3 _ rfl
  have h4 : DataW.trod enc Tryz.prog w base spare held n 3 (([v0, v1, v2, v3, v4, v5, v6, v7, v8, v9, v10].drop 4).take (Tryz.prog.cellsOf 3)) = some y4 := hf 4 _ rfl
  have h5 : DataW.trod enc Tryz.prog w base spare held n 32 (([v0, v1, v2, v3, v4, v5, v6, v7, v8, v9, v10].drop 5).take (Tryz.prog.cellsOf 32)) = some y5 := hf 5 _ rfl
  have h6 : DataW.trod enc Tryz.prog w base spare held n 4 (([v0, v1, v2, v3, v4, v5, v6, v7, v8, v9, v10].drop 6).take (Tryz.prog.cellsOf 4)) = some y6 := hf 6 _ rfl
  have h7 : DataW.trod enc Tryz.prog w base spare held n 34 (([v0, v1, v2, v3, v4, v5, v6, v7, v8, v9, v10].drop 7).take (Tryz.prog.cellsOf 34)) = some y7 := hf 7 _ rfl
  have h8 : DataW.trod enc Tryz.prog w base spare held n 3 (([v0, v1, v2, v3, v4, v5, v6, v7, v8, v9, v10].drop 9).take (Tryz.prog.cellsOf 3)) = some y8 := hf 8 _ rfl
  have h9 : DataW.trod enc Tryz.prog w base spare held n 3 (([v0, v1, v2, v3, v4, v5, v6, v7, v8, v9, v10].drop 10).take (Tryz.prog.cellsOf 3)) = some y9 := hf 9 _ rfl
  simp only [cellsInt, cellsStr, cellsStrs, cellsTops, cellsBool, cellsPart] at h0 h1 h2 h3 h4 h5 h6 h7 h8 h9
  obtain ⟨d, e0, _, _⟩ := DataW.trod_int Tryz.underlying3 h0
  obtain ⟨s, e1, _, hz⟩ := DataW.trod_string Tryz.underlying9 h1
  obtain ⟨m, e2, _, hmw⟩ := DataW.trod_int Tryz.underlying3 h2
  obtain ⟨tl, ta, tc, e3, s3⟩ := rSl_of (R := rStr) Tryz.underlying31 (n := 0) (by kernel_rfl) (fun fuel cs x h => rStr_of Tryz.underlying9 fuel cs x h) _ _ _ h3
  obtain ⟨gn, e4, _, _⟩ := DataW.trod_int Tryz.underlying3 h4
  obtain ⟨pl, pa, pc, e5, s5⟩ := rSl_of (R := rTop) Tryz.underlying32 (n := 1) (by kernel_rfl) (fun fuel cs x h => top_ofZ fuel cs x h) _ _ _ h5
  obtain ⟨rd, e6, _⟩ := DataW.trod_bool Tryz.underlying4 h6
  obtain ⟨pt, pi, e7, hzp⟩ := part_of h7
  obtain ⟨at_, e8, _, _⟩ := DataW.trod_int Tryz.underlying3 h8
  obtain ⟨now, e9, _, _⟩ := DataW.trod_int Tryz.underlying3 h9
  simp at e0 e1 e2 e3 e4 e5 e6 e7 e8 e9
  have hmin : IntKind.i64.min = -9223372036854775808 := rfl
  have hmax : IntKind.i64.max = 9223372036854775807 := rfl
  simp only [Lit.wf, Bool.and_eq_true, decide_eq_true_eq] at hmw
  exact ⟨⟨d, s, m, tl, gn, pl, rd, pt, pi, at_, now, ta, tc, pa, pc⟩, by rw [e0, e1, e2, e3, e4, e5, e6, e7.1, e7.2, e8, e9], hz, hzp, s3, s5, by show _ ≤ m; omega, by show m ≤ _; omega⟩
end
theorem out_ofZ {α : Type} {n : Nat} {R : Rdr α} (hn : 0 < n) {w : World} {a : Option Addr} {c : Nat} {l : List α} (h : SlAt n R w a c l) : Out n R w (fun _ => True) (.slice a l.length c) l := by
  refine ⟨a, c, rfl, h, fun x e hne => ⟨?_, trivial⟩⟩
  obtain ⟨b, off, e2, hr⟩ := h.2.2 hne
  rw [e] at e2
  cases e2
  obtain ⟨cs, h1, h2, _⟩ := hr 0 (List.length_pos_iff.2 hne)
  have h3 := h2 0 hn
  rw [List.getElem?_eq_getElem (by omega)] at h3
  exact cell_block1 h3
theorem op_cells {w wr : World} {b off : Nat} {l : List OpV} (h : RowAt 11 rOpV w b off l) (hk : K0 w wr) (k : Nat) (hlt : k < l.length) :
    (∀ j v, (opCells l[k])[j]? = some v → wr.cell? ⟨b, off + k * 11 + j, none⟩ = some v) ∧ b < wr.heap.size ∧ l[k].s.size ≤ maxLen ∧ l[k].pt.size ≤ maxLen ∧ Out 1 rStr w (fun _ => True) (.slice l[k].ta l[k].topics.length l[k].tc) l[k].topics ∧ Out 2 rTop w (fun _ => True) (.slice l[k].pa l[k].parts.length l[k].pc) l[k].parts ∧ I64 l[k].m := by
  obtain ⟨cs, hc, hj, hr⟩ := h k hlt
  obtain ⟨hr, h0, h1, h2, h3, h4⟩ := hr
  have hcs : ∀ j v, (opCells l[k])[j]? = some v → cs[j]? = some v ∧ j < 11 := fun j v e => by
    have h9 : (opCells l[k]).toList = cs := by rw [hr]; rfl
    rw [← h9]
    refine ⟨by simpa using e, ?_⟩
    have := (Array.getElem?_eq_some_iff.1 e).1
    exact this
  have hb : b < w.heap.size := World.block_lt_of_cell? w _ ((hj 0 (by omega)).trans (hcs 0 _ rfl).1)
  exact ⟨fun j v e => hk.cell' ((hj j (hcs j v e).2).trans (hcs j v e).1) (fun e => e), Nat.lt_of_lt_of_le hb hk.size, h0, h1, out_ofZ (by omega) h2, out_ofZ (by omega) h3, h4⟩
/-- Has a call few topics? -/
def smallB (o : OpV) : Bool := decide (o.topics.length ≤ 30) && decide (o.parts.length ≤ 30)
set_option maxRecDepth 100000 in
set_option maxHeartbeats 2000000 in
theorem small_any (o : OpV) (w : World) : Calls Tryz.prog 9 #[.agg #[.int .i64 o.do_, .string o.s, .int .i64 o.m, .slice o.ta o.topics.length o.tc, .int .i64 o.gn, .slice o.pa o.parts.length o.pc, .bool o.rd, .string o.pt, .int .i64 o.pi, .int .i64 o.at_, .int .i64 o.now]] w fun e w' => Same w e (.bool (smallB o)) w' := by
  unfold smallB
  by_cases h1 : o.topics.length ≤ 30
  · by_cases h2 : o.parts.length ≤ 30
    · have i1 : (o.topics.length : Int) ≤ 30 := by omega
      have i2 : (o.parts.length : Int) ≤ 30 := by omega
      have e1 : (decide (o.topics.length ≤ 30) && decide (o.parts.length ≤ 30)) = true := by simp [h1, h2]
      rw [e1]
      clear h1 h2 e1
      go_enter Tryz.func9, Tryz.ntmps9
      go_wp2
      go_ret
      exact ⟨rfl, (Keeps.refl _ _).alloc _⟩
    · have i1 : (o.topics.length : Int) ≤ 30 := by omega
      have i2 : ¬ (o.parts.length : Int) ≤ 30 := by omega
      have e1 : (decide (o.topics.length ≤ 30) && decide (o.parts.length ≤ 30)) = false := by simp; omega
      rw [e1]
      clear h1 h2 e1
      go_enter Tryz.func9, Tryz.ntmps9
      go_wp2
      go_ret
      exact ⟨rfl, (Keeps.refl _ _).alloc _⟩
  · have i1 : ¬ (o.topics.length : Int) ≤ 30 := by omega
    have e1 : (decide (o.topics.length ≤ 30) && decide (o.parts.length ≤ 30)) = false := by simp; omega
    rw [e1]
    clear h1 e1
    go_enter Tryz.func9, Tryz.ntmps9
    go_wp2
    go_ret
    exact ⟨rfl, (Keeps.refl _ _).alloc _⟩
theorem jc_new {w w1 w2 : World} {cb kb : Nat} {F : Nat → Prop} {s r : Int} (h : CSt w w1 cb (newC s r)) (h2 : RCst w2 F kb (newC s r)) (hF : ∀ k, F k → w1.heap.size ≤ k) (hk : K0 w1 w2) : ∃ tb, JC (fun _ => False) w w w2 cb (newC s r) kb (newC s r) tb := by
  obtain ⟨Y, h⟩ := h
  obtain ⟨YR, v, h2⟩ := h2
  exact ⟨YR.tb, Y, F, YR, v, h.keep hk, h2, rfl, fun k e => ⟨fun e2 => by have := h.ltC k e2; have := hF k e; omega, Nat.le_trans h.k0.size (hF k e)⟩, fun k e => e.elim⟩
set_option maxRecDepth 100000 in
set_option maxHeartbeats 8000000 in
theorem scripts_any (w : World) (s r : Int) (a : Option Addr) (cap : Nat) (l : List OpV) (hs : SlAt 11 rOpV w a cap l) :
    Calls Tryz.prog 3 #[.int .i64 s, .int .i64 r, .slice a l.length cap] w fun e w' => Same w e (.bool true) w' := by
  have hm := hs.len
  have HS := Lib.hid hs
  clear hs
  by_cases hb : newBad s r
  · have HN := Lib.hid (cnew_bad s r w hb)
    have hbb : s < 1 ∨ (¬ s < 1 ∧ 100000 < s) ∨ (¬ s < 1 ∧ ¬ 100000 < s ∧ r < 1) ∨ (¬ s < 1 ∧ ¬ 100000 < s ∧ ¬ r < 1 ∧ 100000 < r) := by unfold newBad at hb; omega
    clear hb
    rcases hbb with h1 | ⟨h1, h2⟩ | ⟨h1, h2, h3⟩ | ⟨h1, h2, h3, h4⟩
    all_goals
      go_enter Tryz.func3, Tryz.ntmps3
      go_wp2_with fail
      refine HN.out.mono ?_
      rintro e w1 ⟨rfl, k1⟩
      have HK := Lib.hid k1
      clear k1
      go_wp2_with fail
      refine (clive_any _).mono ?_
      rintro e w2 ⟨rfl, k2⟩
      have HF := Lib.hid (K0.tr HK.out k2)
      clear k2
      go_wp2
      go_ret
      exact ⟨rfl, HF.out⟩
  · have h1 : 1 ≤ s ∧ s ≤ 100000 := by unfold newBad at hb; omega
    have h2 : 1 ≤ r ∧ r ≤ 100000 := by unfold newBad at hb; omega
    have q1 : ¬ s < 1 := by omega
    have q2 : ¬ 100000 < s := by omega
    have q3 : ¬ r < 1 := by omega
    have q4 : ¬ 100000 < r := by omega
    have HN := Lib.hid (cnew_any s r w h1 h2)
    have HG0 : Hid (GoodC (newC s r) (newC s r) 2000) := (GoodC.new h1 h2).mono (by omega)
    clear hb h1 h2
    go_enter Tryz.func3, Tryz.ntmps3
    go_wp2_with fail
    refine HN.out.mono ?_
    rintro e w1 ⟨cb, rfl, hc⟩
    have HC0 := Lib.hid hc
    clear hc
    go_wp2_with fail
    refine (rcnew_any s r w1).mono ?_
    rintro e w2 ⟨kb, F, rfl, hr, hF, hk2⟩
    have HJ0 := Lib.hid (jc_new HC0.out hr hF hk2)
    clear hr hF hk2 q1 q2 q3 q4
    go_wp2
    go_loopw [10] (fun i wr => ∃ (k : Nat) (C R : CoordC) (tb : Nat), i = .int .i64 k ∧ k ≤ l.length ∧ k ≤ 50 ∧ JC (fun _ => False) w w wr cb C kb R tb ∧ GoodC C R (40 * (50 - k))) (fun i _ => l.length - (intOf i).toNat)
    case atStart =>
      obtain ⟨tb, hj⟩ := HJ0.out
      exact ⟨0, _, _, tb, rfl, by omega, by omega, hj, HG0.out⟩
    case round =>
      obtain ⟨k, C, R, tb, rfl, hk, h50, hj, hg⟩ := hrel
      have HJR := Lib.hid hj
      have HG := Lib.hid hg
      have HK0 := Lib.hid hj.k0
      have HLIVE := Lib.hid (clive_any wr)
      clear hj hg HJ0 HN HC0
      have i0 : (0 : Int) ≤ k := by omega
      by_cases hlt : k < l.length
      · have i1 : (k : Int) < l.length := by omega
        by_cases hlt50 : k < 50
        · have i2 : (k : Int) < 50 := by omega
          obtain ⟨rb, off, rfl, hrow⟩ := HS.out.row hlt
          obtain ⟨hc, hrb, hz1, hz2, ho1, ho2, hmi⟩ := op_cells hrow HK0.out k hlt
          have HSA : Hid (30 ≥ l[k].topics.length → ∀ wx, K0 wr wx → Calls Tryz.prog 10 #[.pointer (some ⟨cb, 0, none⟩), .pointer (some ⟨kb, 0, none⟩), .agg (opCells l[k])] wx (StepQ (fun _ => False) w w cb C kb l[k].s (0 ≤ l[k].do_ ∧ l[k].do_ ≤ 5) (40 * (50 - (k + 1))))) := fun h30 wx hkx => by
            have hg2 : GoodC C R (40 * (50 - (k + 1)) + 40) := by
              have h9 := HG.out
              rw [show 40 * (50 - k) = 40 * (50 - (k + 1)) + 40 by omega] at h9
              exact h9
            exact step_all (HJR.out.keep hkx) hg2 l[k] hmi hz1 hz2 (by omega) ho1 ho2
          generalize l[k] = o at hc HSA
          have HO : Hid (∀ wy, K0 wr wy → ∀ j v, (opCells o)[j]? = some v → wy.cell? ⟨rb, off + k * 11 + j, none⟩ = some v) := fun wy hky j v e => hky.cell' (hc j v e) (fun e => e)
          have d0 : wr.cell? ⟨rb, off + k * 11, none⟩ = some (.int .i64 o.do_) := hc 0 _ rfl
          have d1 : wr.cell? ⟨rb, off + k * 11 + 1, none⟩ = some (.string o.s) := hc 1 _ rfl
          have d2 : wr.cell? ⟨rb, off + k * 11 + 2, none⟩ = some (.int .i64 o.m) := hc 2 _ rfl
          have d3 : wr.cell? ⟨rb, off + k * 11 + 3, none⟩ = some (.slice o.ta o.topics.length o.tc) := hc 3 _ rfl
          have d4 : wr.cell? ⟨rb, off + k * 11 + 4, none⟩ = some (.int .i64 o.gn) := hc 4 _ rfl
          have d5 : wr.cell? ⟨rb, off + k * 11 + 5, none⟩ = some (.slice o.pa o.parts.length o.pc) := hc 5 _ rfl
          have d6 : wr.cell? ⟨rb, off + k * 11 + 6, none⟩ = some (.bool o.rd) := hc 6 _ rfl
          have d7 : wr.cell? ⟨rb, off + k * 11 + 7, none⟩ = some (.string o.pt) := hc 7 _ rfl
          have d8 : wr.cell? ⟨rb, off + k * 11 + 8, none⟩ = some (.int .i64 o.pi) := hc 8 _ rfl
          have d9 : wr.cell? ⟨rb, off + k * 11 + 9, none⟩ = some (.int .i64 o.at_) := hc 9 _ rfl
          have d10 : wr.cell? ⟨rb, off + k * 11 + 10, none⟩ = some (.int .i64 o.now) := hc 10 _ rfl
          have HLT := Lib.hid hlt
          have H50 := Lib.hid hlt50
          have HSM := Lib.hid (small_any o wr)
          clear hrow hc hz1 hz2 ho1 ho2 hmi h50 hk
          cases hsb : smallB o with
          | false =>
            rw [hsb] at HSM
            clear hsb
            go_wp2_with fail
            refine HSM.out.mono ?_
            rintro e w3 ⟨rfl, k3⟩
            have HK3 := Lib.hid (K0.tr HK0.out k3)
            clear k3 d0 d1 d2 d3 d4 d5 d6 d7 d8 d9 d10
            go_wp2_with fail
            refine (clive_any _).mono ?_
            rintro e w4 ⟨rfl, k4⟩
            have HF := Lib.hid (K0.tr HK3.out k4)
            clear k4
            go_wp2
            go_ret
            exact ⟨rfl, HF.out⟩
          | true =>
            rw [hsb] at HSM
            have h30 : 30 ≥ o.topics.length := by unfold smallB at hsb; simp at hsb; omega
            have HST := Lib.hid (HSA.out h30)
            clear hsb
            go_wp2_with fail
            refine HSM.out.mono ?_
            rintro e w3 ⟨rfl, k3⟩
            have HK3 := Lib.hid k3
            have e0 := k3.cell' d0 (fun e => e)
            have e1 := k3.cell' d1 (fun e => e)
            have e2 := k3.cell' d2 (fun e => e)
            have e3 := k3.cell' d3 (fun e => e)
            have e4 := k3.cell' d4 (fun e => e)
            have e5 := k3.cell' d5 (fun e => e)
            have e6 := k3.cell' d6 (fun e => e)
            have e7 := k3.cell' d7 (fun e => e)
            have e8 := k3.cell' d8 (fun e => e)
            have e9 := k3.cell' d9 (fun e => e)
            have e10 := k3.cell' d10 (fun e => e)
            have erb := Nat.lt_of_lt_of_le hrb k3.size
            clear k3 d0 d1 d2 d3 d4 d5 d6 d7 d8 d9 d10 hrb
            go_wp2_with fail
            refine (HST.out _ HK3.out).mono ?_
            rintro e w4 ⟨rfl, C2, R2, tb2, hj2, hg2, _⟩
            have HJ2 := Lib.hid hj2
            have HG2 := Lib.hid hg2
            clear hj2 hg2 e0 e1 e2 e3 e4 e5 e6 e7 e8 e9 e10 erb
            go_wp2_with fail
            refine (jc_holds HJ2.out HG2.out).mono ?_
            rintro e w5 ⟨rfl, hj5⟩
            have HJ5 := Lib.hid hj5
            clear hj5
            go_wp2
            go_roundw
            case rel => exact ⟨k + 1, C2, R2, tb2, by go_num, HLT.out, H50.out, HJ5.out, HG2.out⟩
            case measure => have := HLT.out; simp [intOf]; omega
        · have i2 : ¬ (k : Int) < 50 := by omega
          clear h50 hlt50
          go_wp2_with fail
          refine HLIVE.out.mono ?_
          rintro e w2 ⟨rfl, k2⟩
          have HF := Lib.hid (K0.tr HK0.out k2)
          clear k2
          go_wp2
          go_ret
          exact ⟨rfl, HF.out⟩
      · have i1 : ¬ (k : Int) < l.length := by omega
        go_wp2_with fail
        refine HLIVE.out.mono ?_
        rintro e w2 ⟨rfl, k2⟩
        have HF := Lib.hid (K0.tr HK0.out k2)
        clear k2
        go_wp2
        go_ret
        exact ⟨rfl, HF.out⟩
end Go.Proofs.YtklhlffdpojkoaaGreat
