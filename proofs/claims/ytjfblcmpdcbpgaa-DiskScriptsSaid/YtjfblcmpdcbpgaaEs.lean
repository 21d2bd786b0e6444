/-
  DiskScripts, walked: whatever is called, a disk answers what the document says, and has its files.
-/
import Derived.Test.YtjfblcmpdcbpgaaEr
import Derived.Test.YtjfblcmpdcbpgaaDk
import Derived.Test.YtjfblcmpdcbpgaaDp
namespace Go.Proofs.Ytjfblcmpdcbpgaa
open Go.RowKit Fx

structure OpD where
  do_ : Int
  name : ByteArray
  text : ByteArray
  n : Int
  keep : List Int
  ka : Option Addr
  kc : Nat
theorem step_all {w0 w : World} {db b n : Nat} {D R : DiskC} (h : JSt (fun _ => False) w0 w0 w db D b R) (hg : Good D R n) (hn : n ≤ 900) (o : OpD) (ht : o.text.size ≤ 300) (hm : o.n ≤ 9223372036854775807) (hI : Ints w0 (fun _ => True) o.ka o.keep) :
    Calls Try.prog 22 #[.pointer (some ⟨db, 0, none⟩), .pointer (some ⟨b, 0, none⟩), .agg #[.int .i64 o.do_, .string o.name, .string o.text, .int .i64 o.n, .slice o.ka o.keep.length o.kc]] w (StepP w0 n) := by
  obtain ⟨dv, nm, tx, m, kp, ka, kc⟩ := o
  dsimp only at ht hm hI ⊢
  by_cases h0 : dv = 0
  · subst h0; exact step_0 h hg hn ht
  by_cases h1 : dv = 1
  · subst h1; exact step_1 h hg hn
  by_cases h2 : dv = 2
  · subst h2; exact step_2 h hg hn
  by_cases h3 : dv = 3
  · subst h3; exact step_3 h hg hn
  by_cases h4 : dv = 4
  · subst h4; exact step_4 h hg hn
  by_cases h5 : dv = 5
  · subst h5; exact step_5 h hg hn
  by_cases h6 : dv = 6
  · subst h6; exact step_6 h hg hn hm
  by_cases h7 : dv = 7
  · subst h7; exact step_7 h hg hn hI
  by_cases h8 : dv = 8
  · subst h8; exact step_8 h hg hn
  exact step_d h hg hn (by simpa using h0) (by simpa using h1) (by simpa using h2) (by simpa using h3) (by simpa using h4) (by simpa using h5) (by simpa using h6) (by simpa using h7) (by simpa using h8)
def opCells (o : OpD) : Array Value := #[.int .i64 o.do_, .string o.name, .string o.text, .int .i64 o.n, .slice o.ka o.keep.length o.kc]
def rOp : Rdr OpD := fun w cs o => cs = [.int .i64 o.do_, .string o.name, .string o.text, .int .i64 o.n, .slice o.ka o.keep.length o.kc] ∧ o.text.size ≤ maxLen ∧ SlAt 1 rInt w o.ka o.kc o.keep ∧ -9223372036854775808 ≤ o.n ∧ o.n ≤ 9223372036854775807
theorem cellsOp : Try.prog.cellsOf 50 = 5 := by kernel_rfl
theorem five {α : Type} (l : List α) (h : l.length = 5) : ∃ a b c d e, l = [a, b, c, d, e] := by
  match l, h with
  | [a, b, c, d, e], _ => exact ⟨a, b, c, d, e, rfl⟩
section
variable {H : Type} {enc : TypeId × Value → H} {w : World} {base : Nat} {spare : Nat → Bool} {held : Bool}
theorem op_of (fuel : Nat) (cs : List Value) (x : DataW H × List MemPlace) (h : DataW.trod enc Try.prog w base spare held fuel 50 cs = some x) : ∃ o, rOp w cs o := by
  obtain ⟨xs, n, _, rfl, hl, hlen, hf⟩ := DataW.trod_struct Try.underlying50 h
  rw [cellsOp] at hl
  obtain ⟨v0, v1, v2, v3, v4, rfl⟩ := five cs hl
  obtain ⟨y0, y1, y2, y3, y4, rfl⟩ := five xs hlen
  have h0 : DataW.trod enc Try.prog w base spare held n 3 (([v0, v1, v2, v3, v4].drop 0).take (Try.prog.cellsOf 3)) = some y0 := hf 0 _ rfl
  have h1 : DataW.trod enc Try.prog w base spare held n 9 (([v0, v1, v2, v3, v4].drop 1).take (Try.prog.cellsOf 9)) = some y1 := hf 1 _ rfl
  have h2 : DataW.trod enc Try.prog w base spare held n 9 (([v0, v1, v2, v3, v4].drop 2).take (Try.prog.cellsOf 9)) = some y2 := hf 2 _ rfl
  have h3 : DataW.trod enc Try.prog w base spare held n 3 (([v0, v1, v2, v3, v4].drop 3).take (Try.prog.cellsOf 3)) = some y3 := hf 3 _ rfl
  have h4 : DataW.trod enc Try.prog w base spare held n 22 (([v0, v1, v2, v3, v4].drop 4).take (Try.prog.cellsOf 22)) = some y4 := hf 4 _ rfl
  simp only [cellsInt, cellsStr, cellsInts] at h0 h1 h2 h3 h4
  obtain ⟨d, e0, _, _⟩ := DataW.trod_int Try.underlying3 h0
  obtain ⟨s, e1, _, _⟩ := DataW.trod_string Try.underlying9 h1
  obtain ⟨t, e2, _, ht⟩ := DataW.trod_string Try.underlying9 h2
  obtain ⟨m, e3, _, hmw⟩ := DataW.trod_int Try.underlying3 h3
  obtain ⟨kp, ka, kc, e4, s4⟩ := rSl_of (R := rInt) Try.underlying22 (n := 0) (by kernel_rfl) (fun fuel cs x h => rInt_of Try.underlying3 fuel cs x h) n _ _ h4
  simp at e0 e1 e2 e3 e4
  have hmin : IntKind.i64.min = -9223372036854775808 := rfl
  have hmax : IntKind.i64.max = 9223372036854775807 := rfl
  simp only [Lit.wf, Bool.and_eq_true, decide_eq_true_eq] at hmw
  exact ⟨⟨d, s, t, m, kp, ka, kc⟩, by rw [e0, e1, e2, e3, e4], ht, s4, by show _ ≤ m; omega, by show m ≤ _; omega⟩
end
theorem op_cells {w wr : World} {b off : Nat} {l : List OpD} (h : RowAt 5 rOp w b off l) (hk : K0 w wr) (k : Nat) (hlt : k < l.length) :
    (∀ j v, (opCells l[k])[j]? = some v → wr.cell? ⟨b, off + k * 5 + j, none⟩ = some v) ∧ b < wr.heap.size ∧ l[k].text.size ≤ maxLen ∧ Ints w (fun _ => True) l[k].ka l[k].keep ∧ -9223372036854775808 ≤ l[k].n ∧ l[k].n ≤ 9223372036854775807 := by
  obtain ⟨cs, hc, hj, hr⟩ := h k hlt
  obtain ⟨hr, h0, h2, h3, h4⟩ := hr
  have hcs : ∀ j v, (opCells l[k])[j]? = some v → cs[j]? = some v ∧ j < 5 := fun j v e => by
    have h9 : (opCells l[k]).toList = cs := by rw [hr]; rfl
    rw [← h9]
    refine ⟨by simpa using e, ?_⟩
    have := (Array.getElem?_eq_some_iff.1 e).1
    exact this
  have hb : b < w.heap.size := World.block_lt_of_cell? w _ ((hj 0 (by omega)).trans (hcs 0 _ rfl).1)
  exact ⟨fun j v e => hk.cell' ((hj j (hcs j v e).2).trans (hcs j v e).1) (fun e => e), Nat.lt_of_lt_of_le hb hk.size, h0, ints_of h2, h3, h4⟩
def newR (r : Int) : DiskC := ⟨r, 0, -1, []⟩
theorem jst_new {w w1 : World} {db : Nat} {r : Int} (h : DOk w w1 db (newD r)) : JSt (fun _ => False) w w (w1.alloc (.cells #[.int .i64 r, .slice none 0 0, .int .i64 (-1)] 48)) db (newD r) w1.heap.size (newR r) ∧ Good (newD r) (newR r) 0 := by
  obtain ⟨⟨mb, L, h1⟩, wf⟩ := h
  have hk : K0 w1 (w1.alloc (.cells #[.int .i64 r, .slice none 0 0, .int .i64 (-1)] 48)) := (Keeps.refl _ _).alloc _
  refine ⟨⟨mb, L, fun k => k = w1.heap.size, h1.keep hk, ⟨.slice none 0 0, heap_new _ _ _ rfl, World.ownsRow_nil _ _ _ _, rfl, fun k e => by subst e; simp, fun k e => by cases e⟩, fun k e => ?_, fun k e => e.elim⟩, wf, ⟨rfl, rfl, rfl, fun _ => rfl, .nil⟩, Nat.le_refl _⟩
  subst e
  exact ⟨fun e => by have := inD_lt h1 e; omega, h1.k0.size⟩
set_option maxRecDepth 100000 in
set_option maxHeartbeats 8000000 in
theorem scripts_any (w : World) (r : Int) (a : Option Addr) (cap : Nat) (l : List OpD) (hs : SlAt 5 rOp w a cap l) :
    Calls Try.prog 7 #[.int .i64 r, .slice a l.length cap] w fun e w' => Same w e (.bool true) w' := by
  have hm := hs.len
  have HS := Lib.hid hs
  clear hs
  by_cases hb : r < 1 ∨ 4194304 < r
  · have HN := Lib.hid (dnew_bad r w hb)
    have hbb : r < 1 ∨ (¬ r < 1 ∧ 4194304 < r) := by omega
    clear hb
    rcases hbb with h1 | ⟨h1, h2⟩
    all_goals
      go_enter Try.func7, Try.ntmps7
      go_wp2_with fail
      refine HN.out.mono ?_
      rintro e w1 ⟨rfl, k1⟩
      have HK := Lib.hid k1
      clear k1
      go_wp2_with fail
      refine (live_any _).mono ?_
      rintro e w2 ⟨rfl, k2⟩
      have HF := Lib.hid (K0.tr HK.out k2)
      clear k2
      go_wp2
      go_ret
      exact ⟨rfl, HF.out⟩
  · have h1 : 1 ≤ r := by omega
    have h2 : r ≤ 4194304 := by omega
    have HN := Lib.hid (st_new r w ⟨h1, h2⟩)
    clear hb
    go_enter Try.func7, Try.ntmps7
    go_wp2_with fail
    refine HN.out.mono ?_
    rintro e w1 ⟨db, rfl, hd⟩
    have HJ := Lib.hid (jst_new hd)
    clear hd
    go_wp2
    obtain ⟨b, hbb⟩ : ∃ b, b = w1.heap.size := ⟨_, rfl⟩
    rw [← hbb] at HJ ⊢
    clear hbb
    generalize w1.alloc _ = wx at HJ ⊢
    go_loopw [8, 5, 7] (fun i dv kv wr => ∃ (k db b : Nat) (D R : DiskC), i = .int .i64 k ∧ k ≤ l.length ∧ dv = .pointer (some ⟨db, 0, none⟩) ∧ kv = .pointer (some ⟨b, 0, none⟩) ∧ JSt (fun _ => False) w w wr db D b R ∧ Good D R k ∧ k ≤ 60) (fun i _ _ _ => l.length - (intOf i).toNat)
    case atStart => exact ⟨0, db, b, _, _, rfl, by omega, rfl, rfl, HJ.out.1, HJ.out.2, by omega⟩
    case round =>
      obtain ⟨k, db, b, D, R, rfl, hk, rfl, rfl, hj, hg, h60⟩ := hrel
      have HJR := Lib.hid hj
      have HG := Lib.hid hg
      have HK0 := Lib.hid hj.k0
      have HLIVE := Lib.hid (live_any wr)
      clear hj hg HJ HN
      have i0 : (0 : Int) ≤ k := by omega
      by_cases hlt : k < l.length
      · have i1 : (k : Int) < l.length := by omega
        by_cases hlt60 : k < 60
        · have i2 : (k : Int) < 60 := by omega
          obtain ⟨rb, off, rfl, hrow⟩ := HS.out.row hlt
          obtain ⟨hc, hrb, htm, hI, hn1, hn2⟩ := op_cells hrow HK0.out k hlt
          have HI := Lib.hid hI
          generalize l[k] = o at hc htm HI hn1 hn2
          have HO : Hid (∀ wy, K0 wr wy → ∀ j v, (opCells o)[j]? = some v → wy.cell? ⟨rb, off + k * 5 + j, none⟩ = some v) := fun wy hky j v e => hky.cell' (hc j v e) (fun e => e)
          have d0 : wr.cell? ⟨rb, off + k * 5, none⟩ = some (.int .i64 o.do_) := hc 0 _ rfl
          have d1 : wr.cell? ⟨rb, off + k * 5 + 1, none⟩ = some (.string o.name) := hc 1 _ rfl
          have d2 : wr.cell? ⟨rb, off + k * 5 + 2, none⟩ = some (.string o.text) := hc 2 _ rfl
          have d3 : wr.cell? ⟨rb, off + k * 5 + 3, none⟩ = some (.int .i64 o.n) := hc 3 _ rfl
          have d4 : wr.cell? ⟨rb, off + k * 5 + 4, none⟩ = some (.slice o.ka o.keep.length o.kc) := hc 4 _ rfl
          have HLT := Lib.hid hlt
          have htm2 : (o.text.size : Int) ≤ 9223372036854775807 := by unfold maxLen at htm; omega
          clear hrow hc hI htm
          by_cases hbig : (300 : Int) < o.text.size
          · go_wp2_with fail
            refine HLIVE.out.mono ?_
            rintro e w2 ⟨rfl, k2⟩
            have HF := Lib.hid (K0.tr HK0.out k2)
            clear k2
            go_wp2
            go_ret
            exact ⟨rfl, HF.out⟩
          · have HST := Lib.hid (step_all HJR.out HG.out (by omega) o (by omega) hn2 HI.out)
            clear hn1 hn2
            go_wp2_with fail
            refine HST.out.mono ?_
            rintro e w2 ⟨db2, D2, b2, R2, rfl, hj2, hg2⟩
            have HH := Lib.hid (holds_any hj2 hg2 (by omega))
            have HJ2 := Lib.hid hj2
            have HG2 := Lib.hid hg2
            clear hj2 hg2 d0 d1 d2 d3 d4 hrb
            go_wp2_with fail
            refine HH.out.mono ?_
            rintro e w3 ⟨rfl, k3⟩
            have HJ3 := Lib.hid (HJ2.out.keep k3)
            clear k3
            go_wp2
            go_roundw
            case rel => exact ⟨k + 1, db2, b2, D2, R2, by go_num, HLT.out, rfl, rfl, HJ3.out, HG2.out, by omega⟩
            case measure => have := HLT.out; simp [intOf]; omega
        · have i2 : ¬ (k : Int) < 60 := by omega
          go_wp2_with fail
          refine HLIVE.out.mono ?_
          rintro e w2 ⟨rfl, k2⟩
          have HF := Lib.hid (K0.tr HK0.out k2)
          clear k2
          go_wp2
          go_ret
          exact ⟨rfl, HF.out⟩
      · have i1 : ¬ (k : Int) < l.length := by omega
        go_wp2_with fail
        refine HLIVE.out.mono ?_
        rintro e w2 ⟨rfl, k2⟩
        have HF := Lib.hid (K0.tr HK0.out k2)
        clear k2
        go_wp2
        go_ret
        exact ⟨rfl, HF.out⟩
end Go.Proofs.Ytjfblcmpdcbpgaa
