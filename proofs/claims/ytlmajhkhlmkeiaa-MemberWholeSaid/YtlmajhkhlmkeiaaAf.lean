/-
  The takers of a topic, by their places: the package assign's list, and the reference's.
-/
import Derived.Test.YtlmajhkhlmkeiaaAe
import Derived.Test.YtlmajhkhlmkeiaaAp
namespace Go.Proofs.Ytlmajhkhlmkeiaa
open Go.RowKit Fx

def rNat : Rdr Nat := fun _ cs n => cs = [.int .i64 n]
def topicsAt (subs : List SubC) (i : Nat) : List ByteArray := (subs.getD i ⟨0, []⟩).topics
/-- The first k members' places that want a topic. -/
def takeTo (subs : List SubC) (s : ByteArray) (k : Nat) : List Nat := (List.range k).filter fun i => wantB (topicsAt subs i) s
def takersL (subs : List SubC) (s : ByteArray) : List Nat := takeTo subs s subs.length
theorem takeTo_succ (subs : List SubC) (s : ByteArray) (k : Nat) : takeTo subs s (k + 1) = takeTo subs s k ++ if wantB (topicsAt subs k) s then [k] else [] := by
  simp only [takeTo, List.range_succ, List.filter_append]
  congr 1
  cases h : wantB (topicsAt subs k) s <;> simp [h]
theorem takeTo_len (subs : List SubC) (s : ByteArray) (k : Nat) : (takeTo subs s k).length ≤ k := by
  have := List.length_filter_le (fun i => wantB (topicsAt subs i) s) (List.range k)
  simpa [takeTo] using this
theorem topicsAt_eq {subs : List SubC} {k : Nat} (h : k < subs.length) : topicsAt subs k = subs[k].topics := by
  simp [topicsAt, List.getD, h]
def natCells (l : List Nat) : List Value := l.map fun (i : Nat) => .int .i64 (i : Int)
theorem nat_flat (l : List Nat) : l.flatMap (fun (i : Nat) => [Value.int .i64 (i : Int)]) = natCells l := by induction l <;> simp_all [natCells]
def TakeRel (w0 w : World) (subs : List SubC) (s : ByteArray) (k : Nat) (v : Value) (wr : World) : Prop :=
  wr.ownsRow w.heap.size 3 1 v (takeTo subs s k).length (natCells (takeTo subs s k)) ∧ K0 w wr
/-- What a list of places looks like behind the call. -/
def NatsPost (w : World) (l : List Nat) (e : Ending) (w' : World) : Prop :=
  ∃ a cap, e = .returned (.slice a l.length cap) ∧ SlAt 1 rNat w' a cap l ∧ K0 w w' ∧ ∀ k, (Value.slice a l.length cap).ownBlock = some k → w.heap.size ≤ k ∧ k < w'.heap.size
theorem TakeRel.post {w0 w wr : World} {subs : List SubC} {s : ByteArray} {v : Value} (h : TakeRel w0 w subs s subs.length v wr) : NatsPost w (takersL subs s) (.returned v) wr := by
  obtain ⟨h1, h2⟩ := h
  obtain ⟨a, cap, rfl, h3, h4⟩ := own_slAt (R := rNat) (w := wr) (base := w.heap.size) (e := 3) (v := v) (l := takersL subs s) (fun i => [.int .i64 i]) (fun _ => rfl) (fun _ => rfl) (by rw [nat_flat]; exact h1)
  exact ⟨a, cap, rfl, h3, h2, h4⟩
theorem TakeRel.yes {w0 w wr wx w1 : World} {subs : List SubC} {s : ByteArray} {k : Nat} {v : Value} (h : wr.ownsRow w.heap.size 3 1 v (takeTo subs s k).length (natCells (takeTo subs s k))) (hk : K0 w wx)
    (hw : wantB (topicsAt subs k) s = true) {g cap : Nat} (hown : w1.ownsRow w.heap.size 3 1 (.slice (some ⟨g, 0, none⟩) ((takeTo subs s k).length + 1) cap) ((takeTo subs s k).length + 1) (natCells (takeTo subs s k) ++ [.int .i64 k]))
    (hg : wx.grownBy w1 v.ownBlock) : TakeRel w0 w subs s (k + 1) (.slice (some ⟨g, 0, none⟩) ((takeTo subs s k).length + 1) cap) w1 := by
  refine ⟨?_, hk.grown hg fun j e hj => ?_⟩
  · rw [takeTo_succ, hw]
    simpa [natCells] using hown
  · have := (h.lt j e).1
    omega
theorem TakeRel.no {w0 w wr wx : World} {subs : List SubC} {s : ByteArray} {k : Nat} {v : Value} (h : TakeRel w0 w subs s k v wr) (hk : K0 wr wx) (hw : wantB (topicsAt subs k) s = false) : TakeRel w0 w subs s (k + 1) v wx := by
  refine ⟨?_, K0.tr h.2 hk⟩
  rw [takeTo_succ, hw]
  simpa using own_keep hk h.1 (fun _ _ e => e)

set_option maxRecDepth 100000 in
set_option maxHeartbeats 1000000 in
theorem takers19 (w0 w : World) (bd : Nat) (sv : Value) (sa : Option Addr) (sc : Nat) (subs : List SubC) (s : ByteArray) (hs : SlAt 2 rSub w0 sa sc subs) (hb : Below w0.heap.size w0 w) (hl : subs.length ≤ 20)
    (hd : w.cell? ⟨bd, 0, none⟩ = some (.slice sa subs.length sc)) :
    Calls Try.prog 69 #[.pointer (some ⟨bd, 0, none⟩), .string s] w (NatsPost w (takersL subs s)) := by
  have hm := hs.len
  have HS := Lib.hid hs
  have HB := Lib.hid hb
  clear hs hb
  go_enter Try.func69, Try.ntmps69
  go_wp2
  go_loopw [5, 13] (fun v i wr => ∃ k : Nat, i = .int .i64 k ∧ k ≤ subs.length ∧ TakeRel w0 w subs s k v wr) (fun _ i _ => subs.length - (intOf i).toNat)
  case atStart => exact ⟨0, rfl, by omega, by simpa [takeTo, natCells] using World.ownsRow_nil w w.heap.size 3 1, Keeps.refl _ _⟩
  case round =>
    obtain ⟨k, rfl, hk, hrel⟩ := hrel
    have HR := Lib.hid hrel
    have hbr := hrel.2.after HB.out
    clear hrel
    by_cases hlt : k < subs.length
    · obtain ⟨b, off, rfl, hr'⟩ := HS.out.row hlt
      obtain ⟨a1, cap1, c0, c1, hbl, hsl⟩ := sub_cells hr' hbr k hlt
      have RC := Lib.hid (fun o => contains32 w0 (wr.alloc o) a1 cap1 subs[k].topics s hsl (hbr.alloc hbr.size o))
      clear hr' hsl hbr
      have HT := Lib.hid (topicsAt_eq hlt)
      generalize subs[k].member = m at c0
      generalize ht : subs[k].topics = tp at c1 RC HT
      clear ht
      generalize htl : tp.length = n at c1 RC
      clear htl
      cases hw : wantB tp s with
      | true =>
        have HW := Lib.hid (show wantB (topicsAt subs k) s = true by rw [HT.out]; exact hw)
        rw [hw] at RC
        clear hw
        have hlen := takeTo_len subs s k
        have hown := HR.out.1
        generalize hxs : natCells (takeTo subs s k) = xs at hown
        generalize hnn : (takeTo subs s k).length = nn at hown hlen
        have HX := Lib.hid hxs
        have HN := Lib.hid hnn
        clear hxs hnn
        have hsz : w.heap.size ≤ wr.heap.size := HR.out.2.size
        go_wp2_with (first | (go_at_call 77; refine (RC.out _).mono ?_; rintro e w3 ⟨rfl, rfl⟩) | (at_builtin; refine wpList_app1 rfl rfl Try.underlying103 info3 rfl (by decide) rfl ((hown.alloc _).alloc _) rfl (heap_new _ _ _ (by simp)) rfl rfl (by omega) (by simp; omega) ?_; intro g cap w4 hA4))
        go_roundw
        case rel =>
          refine ⟨k + 1, by go_num, by omega, ?_⟩
          have h1 := HX.out
          have h2 := HN.out
          subst h1 h2
          exact TakeRel.yes HR.out.1 ((HR.out.2.alloc _).alloc _) HW.out hA4.own hA4.grown
        case measure => simp [intOf]; omega
      | false =>
        have HW := Lib.hid (show wantB (topicsAt subs k) s = false by rw [HT.out]; exact hw)
        rw [hw] at RC
        clear hw
        go_wp2_with (go_at_call 77; refine (RC.out _).mono ?_; rintro e w3 ⟨rfl, rfl⟩)
        go_roundw
        case rel => exact ⟨k + 1, by go_num, by omega, HR.out.no ((Keeps.refl _ _).alloc _) HW.out⟩
        case measure => simp [intOf]; omega
    · obtain rfl : k = subs.length := by omega
      clear hbr
      go_wp2
      go_ret
      exact HR.out.post

set_option maxRecDepth 100000 in
set_option maxHeartbeats 1000000 in
theorem takers17 (w0 w : World) (sa : Option Addr) (sc : Nat) (subs : List SubC) (s : ByteArray) (hs : SlAt 2 rSub w0 sa sc subs) (hb : Below w0.heap.size w0 w) (hl : subs.length ≤ 30) :
    Calls Try.prog 75 #[.slice sa subs.length sc, .string s] w (NatsPost w (takersL subs s)) := by
  have hm := hs.len
  have HS := Lib.hid hs
  have HB := Lib.hid hb
  clear hs hb
  go_enter Try.func75, Try.ntmps75
  go_wp2
  go_loopw [5, 6] (fun v i wr => ∃ k : Nat, i = .int .i64 k ∧ k ≤ subs.length ∧ TakeRel w0 w subs s k v wr) (fun _ i _ => subs.length - (intOf i).toNat)
  case atStart => exact ⟨0, rfl, by omega, by simpa [takeTo, natCells] using World.ownsRow_nil w w.heap.size 3 1, Keeps.refl _ _⟩
  case round =>
    obtain ⟨k, rfl, hk, hrel⟩ := hrel
    have HR := Lib.hid hrel
    have hbr := hrel.2.after HB.out
    clear hrel
    by_cases hlt : k < subs.length
    · obtain ⟨b, off, rfl, hr'⟩ := HS.out.row hlt
      obtain ⟨a1, cap1, c0, c1, hbl, hsl⟩ := sub_cells hr' hbr k hlt
      have RC := Lib.hid (wants23 w0 wr subs[k].member a1 cap1 subs[k].topics s hsl hbr)
      clear hr' hsl hbr
      have HT := Lib.hid (topicsAt_eq hlt)
      generalize subs[k].member = m at c0 RC
      generalize ht : subs[k].topics = tp at c1 RC HT
      clear ht
      generalize htl : tp.length = n at c1 RC
      clear htl
      cases hw : wantB tp s with
      | true =>
        have HW := Lib.hid (show wantB (topicsAt subs k) s = true by rw [HT.out]; exact hw)
        rw [hw] at RC
        clear hw
        have hlen := takeTo_len subs s k
        have hown := HR.out.1
        generalize hxs : natCells (takeTo subs s k) = xs at hown
        generalize hnn : (takeTo subs s k).length = nn at hown hlen
        have HX := Lib.hid hxs
        have HN := Lib.hid hnn
        clear hxs hnn
        have hsz : w.heap.size ≤ wr.heap.size := HR.out.2.size
        go_wp2_with fail
        refine RC.out.mono ?_
        rintro e w3 ⟨rfl, hk3⟩
        have hown3 := own_keep hk3 hown (fun _ _ e => e)
        have hsz3 : w.heap.size ≤ w3.heap.size := Nat.le_trans hsz hk3.size
        have HK3 := Lib.hid (K0.tr HR.out.2 hk3)
        clear hk3 hown
        go_wp2_with (at_builtin; refine wpList_app1 rfl rfl Try.underlying103 info3 rfl (by decide) rfl (hown3.alloc _) rfl (heap_new _ _ _ (by simp)) rfl rfl (by omega) (by simp; omega) ?_; intro g cap w4 hA4)
        go_roundw
        case rel =>
          refine ⟨k + 1, by go_num, by omega, ?_⟩
          have h1 := HX.out
          have h2 := HN.out
          subst h1 h2
          exact TakeRel.yes HR.out.1 (HK3.out.alloc _) HW.out hA4.own hA4.grown
        case measure => simp [intOf]; omega
      | false =>
        have HW := Lib.hid (show wantB (topicsAt subs k) s = false by rw [HT.out]; exact hw)
        rw [hw] at RC
        clear hw
        go_wp2_with fail
        refine RC.out.mono ?_
        rintro e w3 ⟨rfl, hk3⟩
        have HK3 := Lib.hid hk3
        clear hk3
        go_wp2
        go_roundw
        case rel => exact ⟨k + 1, by go_num, by omega, HR.out.no HK3.out HW.out⟩
        case measure => simp [intOf]; omega
    · obtain rfl : k = subs.length := by omega
      clear hbr
      go_wp2
      go_ret
      exact HR.out.post
end Go.Proofs.Ytlmajhkhlmkeiaa
