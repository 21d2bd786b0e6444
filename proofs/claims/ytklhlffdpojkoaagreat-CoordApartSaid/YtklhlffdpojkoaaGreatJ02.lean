/-
  The takers of a topic, by their places: the package assign's list, and the reference's.
-/
import Derived.Test.YtklhlffdpojkoaaGreatJ01
import Derived.Deep.RegionHeld3
namespace Go.Proofs.YtklhlffdpojkoaaGreat
open Go.RowKit Fx

def rNat : Rdr Nat := fun _ cs n => cs = [.int .i64 n]
def topicsAt (subs : List SubC) (i : Nat) : List ByteArray := (subs.getD i ⟨0, []⟩).topics
/-- The first k members' places that want a topic. -/
def takeTo (subs : List SubC) (s : ByteArray) (k : Nat) : List Nat := (List.range k).filter fun i => wantB (topicsAt subs i) s
def takersL (subs : List SubC) (s : ByteArray) : List Nat := takeTo subs s subs.length
theorem takeTo_succ (subs : List SubC) (s : ByteArray) (k : Nat) : takeTo subs s (k + 1) = takeTo subs s k ++ if wantB (topicsAt subs k) s then [k] else [] := by
  simp only [takeTo, List.range_succ, List.filter_append]
  congr 1
  cases h : wantB (topicsAt subs k) s <;> simp [h]
theorem takeTo_len (subs : List SubC) (s : ByteArray) (k : Nat) : (takeTo subs s k).length ≤ k := by
  have := List.length_filter_le (fun i => wantB (topicsAt subs i) s) (List.range k)
  simpa [takeTo] using this
theorem topicsAt_eq {subs : List SubC} {k : Nat} (h : k < subs.length) : topicsAt subs k = subs[k].topics := by
  simp [topicsAt, List.getD, h]
def natCells (l : List Nat) : List Value := l.map fun (i : Nat) => .int .i64 (i : Int)
theorem nat_flat (l : List Nat) : l.flatMap (fun (i : Nat) => [Value.int .i64 (i : Int)]) = natCells l := by induction l <;> simp_all [natCells]
def TakeRel (_w0 w : World) (subs : List SubC) (s : ByteArray) (k : Nat) (v : Value) (wr : World) : Prop :=
  wr.ownsRow w.heap.size 3 1 v (takeTo subs s k).length (natCells (takeTo subs s k)) ∧ K0 w wr
/-- What a list of places looks like behind the call. -/
def NatsPost (w : World) (l : List Nat) (e : Ending) (w' : World) : Prop :=
  ∃ a cap, e = .returned (.slice a l.length cap) ∧ SlAt 1 rNat w' a cap l ∧ K0 w w' ∧ ∀ k, (Value.slice a l.length cap).ownBlock = some k → w.heap.size ≤ k ∧ k < w'.heap.size
theorem TakeRel.post {w0 w wr : World} {subs : List SubC} {s : ByteArray} {v : Value} (h : TakeRel w0 w subs s subs.length v wr) : NatsPost w (takersL subs s) (.returned v) wr := by
  obtain ⟨h1, h2⟩ := h
  obtain ⟨a, cap, rfl, h3, h4⟩ := own_slAt (R := rNat) (w := wr) (base := w.heap.size) (e := 3) (v := v) (l := takersL subs s) (fun i => [.int .i64 i]) (fun _ => rfl) (fun _ => rfl) (by rw [nat_flat]; exact h1)
  exact ⟨a, cap, rfl, h3, h2, h4⟩
theorem TakeRel.yes {w0 w wr wx w1 : World} {subs : List SubC} {s : ByteArray} {k : Nat} {v : Value} (h : wr.ownsRow w.heap.size 3 1 v (takeTo subs s k).length (natCells (takeTo subs s k))) (hk : K0 w wx)
    (hw : wantB (topicsAt subs k) s = true) {g cap : Nat} (hown : w1.ownsRow w.heap.size 3 1 (.slice (some ⟨g, 0, none⟩) ((takeTo subs s k).length + 1) cap) ((takeTo subs s k).length + 1) (natCells (takeTo subs s k) ++ [.int .i64 k]))
    (hg : wx.grownBy w1 v.ownBlock) : TakeRel w0 w subs s (k + 1) (.slice (some ⟨g, 0, none⟩) ((takeTo subs s k).length + 1) cap) w1 := by
  refine ⟨?_, hk.grown hg fun j e hj => ?_⟩
  · rw [takeTo_succ, hw]
    simpa [natCells] using hown
  · have := (h.lt j e).1
    omega
theorem TakeRel.no {w0 w wr wx : World} {subs : List SubC} {s : ByteArray} {k : Nat} {v : Value} (h : TakeRel w0 w subs s k v wr) (hk : K0 wr wx) (hw : wantB (topicsAt subs k) s = false) : TakeRel w0 w subs s (k + 1) v wx := by
  refine ⟨?_, K0.tr h.2 hk⟩
  rw [takeTo_succ, hw]
  simpa using own_keep hk h.1 (fun _ _ e => e)

set_option maxRecDepth 100000 in
set_option maxHeartbeats 1000000 in
theorem takers19 (w0 w : World) (bd : Nat) (_sv : Value) (sa : Option Addr) (sc : Nat) (subs : List SubC) (s : ByteArray) (hs : SlAt 2 rSub w0 sa sc subs) (hb : Below w0.heap.size w0 w) (hl : subs.length ≤ 20)
    (hd : w.cell? ⟨bd, 0, none⟩ = some (.slice sa subs.length sc)) :
    Calls Tryz.prog 122 #[.pointer (some ⟨bd, 0, none⟩), .string s] w (NatsPost w (takersL subs s)) := by
  have hm := hs.len
  have HS := Lib.hid hs
  have HB := Lib.hid hb
  clear hs hb
  go_enter Tryz.func122, Tryz.ntmps122
  go_wp2
  go_loopw [5, 13] (fun v i wr => ∃ k : Nat, i = .int .i64 k ∧ k ≤ subs.length ∧ TakeRel w0 w subs s k v wr) (fun _ i _ => subs.length - (intOf i).toNat)
  case atStart => exact ⟨0, rfl, by omega, by simpa [takeTo, natCells] using World.ownsRow_nil w w.heap.size 3 1, Keeps.refl _ _⟩
  case round =>
    obtain ⟨k, rfl, hk, hrel⟩ := hrel
    have HR := Lib.hid hrel
    have hbr := hrel.2.after HB.out
    clear hrel
    by_cases hlt : k < subs.length
    · obtain ⟨b, off, rfl, hr'⟩ := HS.out.row hlt
      obtain ⟨a1, cap1, c0, c1, hbl, hsl⟩ := sub_cells hr' hbr k hlt
      have RC := Lib.hid (fun o => contains32 w0 (wr.alloc o) a1 cap1 subs[k].topics s hsl (hbr.alloc hbr.size o))
      clear hr' hsl hbr
      have HT := Lib.hid (topicsAt_eq hlt)
      generalize subs[k].member = m at c0
      generalize ht : subs[k].topics = tp at c1 RC HT
      clear ht
      generalize htl : tp.length = n at c1 RC
      clear htl
      cases hw : wantB tp s with
      | true =>
        have HW := Lib.hid (show wantB (topicsAt subs k) s = true by rw [HT.out]; exact hw)
        rw [hw] at RC
        clear hw
        have hlen := takeTo_len subs s k
        have hown := HR.out.1
        generalize hxs : natCells (takeTo subs s k) = xs at hown
        generalize hnn : (takeTo subs s k).length = nn at hown hlen
        have HX := Lib.hid hxs
        have HN := Lib.hid hnn
        clear hxs hnn
        have hsz : w.heap.size ≤ wr.heap.size := HR.out.2.size
        go_wp2_with (first | (go_at_call 129; refine (RC.out _).mono ?_; rintro e w3 ⟨rfl, rfl⟩) | (at_builtin; refine wpList_app1 rfl rfl Tryz.underlying60 info3 rfl (by decide) rfl ((hown.alloc _).alloc _) rfl (heap_new _ _ _ (by simp)) rfl rfl (by omega) (by simp; omega) ?_; intro g cap w4 hA4))
        go_roundw
        case rel =>
          refine ⟨k + 1, by go_num, by omega, ?_⟩
          have h1 := HX.out
          have h2 := HN.out
          subst h1 h2
          exact TakeRel.yes HR.out.1 ((HR.out.2.alloc _).alloc _) HW.out hA4.own hA4.grown
        case measure => simp [intOf]; omega
      | false =>
        have HW := Lib.hid (show wantB (topicsAt subs k) s = false by rw [HT.out]; exact hw)
        rw [hw] at RC
        clear hw
        go_wp2_with (go_at_call 129; refine (RC.out _).mono ?_; rintro e w3 ⟨rfl, rfl⟩)
        go_roundw
        case rel => exact ⟨k + 1, by go_num, by omega, HR.out.no ((Keeps.refl _ _).alloc _) HW.out⟩
        case measure => simp [intOf]; omega
    · obtain rfl : k = subs.length := by omega
      clear hbr
      go_wp2
      go_ret
      exact HR.out.post

set_option maxRecDepth 100000 in
set_option maxHeartbeats 1000000 in
theorem takers17 (w0 w : World) (sa : Option Addr) (sc : Nat) (subs : List SubC) (s : ByteArray) (hs : SlAt 2 rSub w0 sa sc subs) (hb : Below w0.heap.size w0 w) (hl : subs.length ≤ 30) :
    Calls Tryz.prog 118 #[.slice sa subs.length sc, .string s] w (NatsPost w (takersL subs s)) := by
  have hm := hs.len
  have HS := Lib.hid hs
  have HB := Lib.hid hb
  clear hs hb
  go_enter Tryz.func118, Tryz.ntmps118
  go_wp2
  go_loopw [5, 6] (fun v i wr => ∃ k : Nat, i = .int .i64 k ∧ k ≤ subs.length ∧ TakeRel w0 w subs s k v wr) (fun _ i _ => subs.length - (intOf i).toNat)
  case atStart => exact ⟨0, rfl, by omega, by simpa [takeTo, natCells] using World.ownsRow_nil w w.heap.size 3 1, Keeps.refl _ _⟩
  case round =>
    obtain ⟨k, rfl, hk, hrel⟩ := hrel
    have HR := Lib.hid hrel
    have hbr := hrel.2.after HB.out
    clear hrel
    by_cases hlt : k < subs.length
    · obtain ⟨b, off, rfl, hr'⟩ := HS.out.row hlt
      obtain ⟨a1, cap1, c0, c1, hbl, hsl⟩ := sub_cells hr' hbr k hlt
      have RC := Lib.hid (wants23 w0 wr subs[k].member a1 cap1 subs[k].topics s hsl hbr)
      clear hr' hsl hbr
      have HT := Lib.hid (topicsAt_eq hlt)
      generalize subs[k].member = m at c0 RC
      generalize ht : subs[k].topics = tp at c1 RC HT
      clear ht
      generalize htl : tp.length = n at c1 RC
      clear htl
      cases hw : wantB tp s with
      | true =>
        have HW := Lib.hid (show wantB (topicsAt subs k) s = true by rw [HT.out]; exact hw)
        rw [hw] at RC
        clear hw
        have hlen := takeTo_len subs s k
        have hown := HR.out.1
        generalize hxs : natCells (takeTo subs s k) = xs at hown
        generalize hnn : (takeTo subs s k).length = nn at hown hlen
        have HX := Lib.hid hxs
        have HN := Lib.hid hnn
        clear hxs hnn
        have hsz : w.heap.size ≤ wr.heap.size := HR.out.2.size
        go_wp2_with fail
        refine RC.out.mono ?_
        rintro e w3 ⟨rfl, hk3⟩
        have hown3 := own_keep hk3 hown (fun _ _ e => e)
        have hsz3 : w.heap.size ≤ w3.heap.size := Nat.le_trans hsz hk3.size
        have HK3 := Lib.hid (K0.tr HR.out.2 hk3)
        clear hk3 hown
        go_wp2_with (at_builtin; refine wpList_app1 rfl rfl Tryz.underlying60 info3 rfl (by decide) rfl (hown3.alloc _) rfl (heap_new _ _ _ (by simp)) rfl rfl (by omega) (by simp; omega) ?_; intro g cap w4 hA4)
        go_roundw
        case rel =>
          refine ⟨k + 1, by go_num, by omega, ?_⟩
          have h1 := HX.out
          have h2 := HN.out
          subst h1 h2
          exact TakeRel.yes HR.out.1 (HK3.out.alloc _) HW.out hA4.own hA4.grown
        case measure => simp [intOf]; omega
      | false =>
        have HW := Lib.hid (show wantB (topicsAt subs k) s = false by rw [HT.out]; exact hw)
        rw [hw] at RC
        clear hw
        go_wp2_with fail
        refine RC.out.mono ?_
        rintro e w3 ⟨rfl, hk3⟩
        have HK3 := Lib.hid hk3
        clear hk3
        go_wp2
        go_roundw
        case rel => exact ⟨k + 1, by go_num, by omega, HR.out.no HK3.out HW.out⟩
        case measure => simp [intOf]; omega
    · obtain rfl : k = subs.length := by omega
      clear hbr
      go_wp2
      go_ret
      exact HR.out.post
end Go.Proofs.YtklhlffdpojkoaaGreat

/-
  Shares without partitions; one partition given.
-/
namespace Go.Proofs.YtklhlffdpojkoaaGreat
open Go.RowKit Fx

/-- A deal in block d: the members as they came in; the shares, which it owns. -/
def DealAt (w : World) (d : Nat) (sv : Value) (F : Nat → Prop) (l : List ShareC) : Prop :=
  ∃ v vs, w.heap[d]? = some (.cells #[sv, v] 175 (0, 0)) ∧ SharesAt w F v l vs ∧ ¬ F d
def emptyL (subs : List SubC) : List ShareC := subs.map fun s => ⟨s.member, []⟩
def emptyTo (subs : List SubC) (k : Nat) : List ShareC := (emptyL subs).take k
theorem emptyTo_succ {subs : List SubC} {k : Nat} (h : k < subs.length) : emptyTo subs (k + 1) = emptyTo subs k ++ [⟨subs[k].member, []⟩] := by
  unfold emptyTo emptyL
  rw [List.take_succ_eq_append_getElem (by simpa using h)]
  simp
theorem emptyTo_len {subs : List SubC} {k : Nat} (h : k ≤ subs.length) : (emptyTo subs k).length = k := by simp [emptyTo, emptyL]; omega

theorem emptyTo_all (subs : List SubC) : emptyTo subs subs.length = emptyL subs := by unfold emptyTo; rw [List.take_of_length_le (by simp [emptyL])]
def giveL (l : List ShareC) (m : Nat) (s : ByteArray) (i : Int) : List ShareC := l.modify m fun x => ⟨x.member, x.parts ++ [⟨s, i⟩]⟩

set_option maxRecDepth 100000 in
set_option maxHeartbeats 1000000 in
theorem give20 (w : World) (d : Nat) (sv : Value) (F : Nat → Prop) (l : List ShareC) (m : Nat) (s : ByteArray) (i : Int) (h : DealAt w d sv F l) (hm : m < l.length) (hl : l.length ≤ 100) (hp : l[m].parts.length ≤ 100000) :
    Calls Tryz.prog 123 #[.pointer (some ⟨d, 0, none⟩), .int .i64 m, .string s, .int .i64 i] w fun e w' => e = .returned (.tuple #[]) ∧ ∃ F', DealAt w' d sv F' (giveL l m s i) ∧ (∀ k, F' k → F k ∨ w.heap.size ≤ k) ∧ Keeps F w w' := by
  obtain ⟨v, vs, hd, hS, hF⟩ := h
  obtain ⟨g, cap, rfl, _, hglt⟩ := hS.row.form (by omega)
  have hv : m < vs.length := by rw [hS.len]; exact hm
  have hrowcell : w.cell? ⟨g, m * 2 + 1, none⟩ = some vs[m] := (hS.row.cellAt (m * 2 + 1) (by omega)).trans (shCells_value _ _ _ hv hS.len)
  have hrowfree : w.frozen? ⟨g, m * 2 + 1, none⟩ = false := hS.row.frozenAt _
  have hown := hS.parts m hm
  have c1 := block_cell hd 1
  have hdl := block_lt hd
  simp only [List.getElem?_toArray, List.getElem?_cons_succ, List.getElem?_cons_zero] at c1
  have hmg : vs[m].ownBlock ≠ some g := by
    rcases hS.own m hv with h1 | h1
    · rw [h1]; simp
    · simpa [Value.ownBlock] using h1
  generalize hnn : l[m].parts.length = nn at hown hp
  generalize hxs : ptCells l[m].parts = xs at hown
  generalize hpv : vs[m] = pv at hown hrowcell hmg
  have HN := Lib.hid hnn
  have HX := Lib.hid hxs
  have HP := Lib.hid hpv
  have HS := Lib.hid hS
  have HD := Lib.hid hd
  have HF := Lib.hid hF
  have hA1 : ∀ (o : Obj) (x : Value) (xs' : List Value) (g1 cap1 : Nat) (w1 : World), App1 (w.alloc o) 0 34 2 pv nn xs' g1 cap1 w1 → w1.cell? ⟨g, m * 2 + 1, none⟩ = some pv ∧ w1.frozen? ⟨g, m * 2 + 1, none⟩ = false := by
    intro o x xs' g1 cap1 w1 hA
    have hb : w1.heap[g]? = w.heap[g]? := (hA.grown.block g (by simp; omega) (fun e => hmg e.symm)).trans (Below.heap_alloc w o g hglt)
    exact ⟨(World.cell?_of_block (w := w) hb).trans hrowcell, (World.frozen?_of_block (w := w) hb).trans hrowfree⟩
  have HA1 := Lib.hid hA1
  clear hnn hxs hpv hS hd hF hA1
  go_enter Tryz.func123, Tryz.ntmps123
  go_wp2_with (at_builtin; refine wpList_app1 rfl rfl Tryz.underlying44 info41 rfl (by decide) rfl (hown.alloc _) rfl (heap_new _ _ _ rfl) rfl rfl (by omega) (Nat.zero_le _) ?_; intro g1 cap1 w1 hA; obtain ⟨q1, q2⟩ := HA1.out _ .nilIface _ _ _ _ hA)
  go_end0
  refine ⟨rfl, ?_⟩
  have h1 := HN.out
  have h2 := HX.out
  have h3 := HP.out
  subst h1 h2 h3
  have hgr : w.grownBy w1 vs[m].ownBlock := grown_alloc hA.grown
  obtain ⟨hg1, hg2⟩ := HS.out.give hm hv (p := ⟨s, i⟩) rfl hA.own hgr hA.at_ (by simp)
  refine ⟨_, ⟨_, _, ?_, hg1, ?_⟩, ?_, hg2⟩
  · exact (hg2.block d hdl HF.out).trans HD.out
  · rintro (e | e)
    · exact HF.out e
    · rcases hA.at_ with e2 | e2
      · subst e
        exact HF.out (HS.out.footP m hv _ e2)
      · simp at e2; omega
  · rintro k (e | e)
    · exact .inl e
    · rcases hA.at_ with e2 | e2
      · subst e
        exact .inl (HS.out.footP m hv _ e2)
      · right; simp at e2; omega

set_option maxRecDepth 100000 in
set_option maxHeartbeats 1000000 in
theorem empty21 (w0 w : World) (sa : Option Addr) (sc : Nat) (subs : List SubC) (hs : SlAt 2 rSub w0 sa sc subs) (hb : Below w0.heap.size w0 w) (hl : subs.length ≤ 100) :
    Calls Tryz.prog 117 #[.slice sa subs.length sc] w fun e w' => ∃ v F vs, e = .returned v ∧ SharesAt w' F v (emptyL subs) vs ∧ (∀ k, F k → w.heap.size ≤ k) ∧ K0 w w' := by
  have hm := hs.len
  have HS := Lib.hid hs
  have HB := Lib.hid hb
  clear hs hb
  go_enter Tryz.func117, Tryz.ntmps117
  go_wp2
  go_loopw [3, 4] (fun v i wr => ∃ (k : Nat) (F : Nat → Prop) (vs : List Value), i = .int .i64 k ∧ k ≤ subs.length ∧ SharesAt wr F v (emptyTo subs k) vs ∧ (∀ k, F k → w.heap.size ≤ k) ∧ K0 w wr) (fun _ i _ => subs.length - (intOf i).toNat)
  case atStart => exact ⟨0, fun _ => False, [], rfl, by omega, by simpa [emptyTo] using SharesAt.start w, fun _ h => h.elim, Keeps.refl _ _⟩
  case round =>
    obtain ⟨k, F, vs, rfl, hk, hS, hF, hkw⟩ := hrel
    have hbr := hkw.after HB.out
    have HK := Lib.hid hkw
    have HF := Lib.hid hF
    have HSS := Lib.hid hS
    have hown := hS.row
    clear hF hS hkw
    by_cases hlt : k < subs.length
    · obtain ⟨b, off, rfl, hr'⟩ := HS.out.row hlt
      obtain ⟨a1, cap1, c0, c1, hbl, _⟩ := sub_cells hr' hbr k hlt
      clear hr' hbr
      rw [emptyTo_len hk] at hown
      have HE := Lib.hid (emptyTo_succ hlt)
      generalize subs[k].member = mm at c0 HE
      generalize subs[k].topics.length = n at c1
      generalize hxs : shCells (emptyTo subs k) vs = xs at hown
      have HX := Lib.hid hxs
      clear hxs
      go_wp2_with (at_builtin; refine wpList_app1 rfl rfl Tryz.underlying143 info39 rfl (by decide) rfl (hown.alloc _) rfl (heap_new _ _ _ rfl) rfl rfl (by omega) (Nat.zero_le _) ?_; intro g1 cap2 w1 hA)
      go_roundw
      case rel =>
        have h1 := HX.out
        subst h1
        have hgr := grown_alloc hA.grown
        obtain ⟨hg1, hg2⟩ := HSS.out.more (emptyTo_len hk).symm hA.own hgr hA.at_ (by simp)
        refine ⟨k + 1, _, _, by go_num, by omega, by rw [HE.out]; exact hg1, ?_, HK.out.trans hg2 (fun j hj e => by have := HF.out j e; omega)⟩
        rintro j (e | e)
        · exact HF.out j e
        · rcases hA.at_ with e2 | e2
          · subst e; exact HF.out _ (HSS.out.foot _ e2)
          · have := HK.out.size
            simp at e2; omega
      case measure => simp [intOf]; omega
    · obtain rfl : k = subs.length := by omega
      clear hbr hown
      go_wp2
      go_ret
      refine ⟨_, F, vs, rfl, ?_, HF.out, HK.out⟩
      rw [← emptyTo_all]
      exact HSS.out

def BeginRel (w : World) (sv : Value) (subs : List SubC) (k : Nat) (wr : World) : Prop :=
  ∃ F, DealAt wr w.heap.size sv F (emptyTo subs k) ∧ (∀ j, F j → w.heap.size < j) ∧ K0 w wr
theorem begin_next {w wr w1 : World} {sv : Value} {subs : List SubC} {k : Nat} {F : Nat → Prop} {v : Value} {vs : List Value} {o1 o2 : Obj} {g1 cap2 : Nat} {mm : Int} (hd : wr.heap[w.heap.size]? = some (.cells #[sv, v] 175 (0, 0))) (hS : SharesAt wr F v (emptyTo subs k) vs)
    (hFd : ¬ F w.heap.size) (hF : ∀ j, F j → w.heap.size < j) (hkw : K0 w wr) (hk : k ≤ subs.length) (hE : emptyTo subs (k + 1) = emptyTo subs k ++ [⟨mm, []⟩])
    (hA : App1 ((wr.alloc o1).alloc o2).drew 0 147 2 v k (shCells (emptyTo subs k) vs ++ [.int .i64 mm, .slice none 0 0]) g1 cap2 w1) :
    BeginRel w sv subs (k + 1) (w1.setCell ⟨w.heap.size, 1, none⟩ (.slice (some ⟨g1, 0, none⟩) (k + 1) cap2)) := by
  have hgr := grown_alloc (grown_alloc (grown_drew hA.grown))
  have hne : v.ownBlock ≠ some w.heap.size := fun e => hFd (hS.foot _ e)
  have hlt := block_lt hd
  have hg1 : w.heap.size < g1 := by
    rcases hA.at_ with e | e
    · exact hF _ (hS.foot _ e)
    · have : g1 = wr.heap.size + 1 + 1 := by simpa using e
      omega
  obtain ⟨hg, hk2⟩ := hS.more (emptyTo_len hk).symm hA.own hgr hA.at_ (by simp; omega)
  have hd1 : w1.heap[w.heap.size]? = some (.cells #[sv, v] 175 (0, 0)) := (hgr.block _ hlt (fun e => hne e.symm)).trans hd
  have hne2 : ∀ j, (F j ∨ j = g1) → ¬ j = w.heap.size := by
    rintro j (e | e) e2
    · subst e2; exact hFd e
    · omega
  have hg' := hg.keep ((Keeps.refl (fun j => j = w.heap.size) w1).setC 1 (.slice (some ⟨g1, 0, none⟩) (k + 1) cap2) (fun _ => rfl)) hne2
  rw [← hE] at hg'
  refine ⟨fun j => F j ∨ j = g1, ⟨_, _, setCell_block hd1 1 _, hg', fun e => hne2 _ e rfl⟩, ?_, ?_⟩
  · rintro j (e | e)
    · exact hF j e
    · omega
  · exact (hkw.trans hk2 (fun j hj e => by have := hF j e; omega)).setC 1 _ (fun h => by omega)
set_option maxRecDepth 100000 in
set_option maxHeartbeats 1000000 in
theorem begin18 (w0 w : World) (sa : Option Addr) (sc : Nat) (subs : List SubC) (hs : SlAt 2 rSub w0 sa sc subs) (hb : Below w0.heap.size w0 w) (hl : subs.length ≤ 100) :
    Calls Tryz.prog 121 #[.slice sa subs.length sc] w fun e w' => e = .returned (.pointer (some ⟨w.heap.size, 0, none⟩)) ∧ BeginRel w (.slice sa subs.length sc) subs subs.length w' := by
  have hm := hs.len
  have HS := Lib.hid hs
  have HB := Lib.hid hb
  clear hs hb
  go_enter Tryz.func121, Tryz.ntmps121
  go_wp2
  go_loopw [11] (fun i wr => ∃ (k : Nat), i = .int .i64 k ∧ k ≤ subs.length ∧ BeginRel w (.slice sa subs.length sc) subs k wr) (fun i _ => subs.length - (intOf i).toNat)
  case atStart =>
    refine ⟨0, rfl, by omega, fun _ => False, ⟨.slice none 0 0, [], heap_new _ _ _ rfl, by simpa [emptyTo] using SharesAt.start _, fun h => h⟩, fun _ h => h.elim, (Keeps.refl _ _).alloc _⟩
  case round =>
    obtain ⟨k, rfl, hk, F, ⟨v, vs, hd, hS, hFd⟩, hF, hkw⟩ := hrel
    have hbr := hkw.after HB.out
    have HK := Lib.hid hkw
    have HF := Lib.hid hF
    have HFd := Lib.hid hFd
    have HSS := Lib.hid hS
    have HD := Lib.hid hd
    have hown := hS.row
    have hdl := block_lt hd
    have hdc := block_cell hd 1
    have hne : v.ownBlock ≠ some w.heap.size := fun e => hFd (hS.foot _ e)
    simp only [List.getElem?_toArray, List.getElem?_cons_succ, List.getElem?_cons_zero] at hdc
    clear hF hS hkw hFd
    by_cases hlt : k < subs.length
    · obtain ⟨b, off, rfl, hr'⟩ := HS.out.row hlt
      obtain ⟨a1, cap1, c0, c1, hbl, _⟩ := sub_cells hr' hbr k hlt
      clear hr' hbr
      rw [emptyTo_len hk] at hown
      have HE := Lib.hid (emptyTo_succ hlt)
      generalize subs[k].member = mm at c0 HE
      generalize subs[k].topics.length = n at c1
      generalize hxs : shCells (emptyTo subs k) vs = xs at hown
      have HX := Lib.hid hxs
      clear hxs
      have hA1 : ∀ (o1 o2 : Obj) (xs' : List Value) (g1 cap1 : Nat) (w1 : World), App1 ((wr.alloc o1).alloc o2).drew 0 147 2 v k xs' g1 cap1 w1 → w1.cell? ⟨w.heap.size, 1, none⟩ = some v ∧ w1.frozen? ⟨w.heap.size, 1, none⟩ = false := by
        intro o1 o2 xs' g1 cap1 w1 hA
        have h1 : ((wr.alloc o1).alloc o2).drew.heap[w.heap.size]? = some _ := block_alloc (block_alloc hd o1) o2
        have h2 := hA.far h1 hne
        exact ⟨block_cell h2 1, block_free h2 1⟩
      have HA1 := Lib.hid hA1
      clear hA1 hd hne
      go_wp2_with fail
      go_region_law (refine step_app1 rfl rfl Tryz.underlying143 info39 rfl (by decide) rfl (((hown.alloc _).alloc _).drew) rfl (heap_new_drew _ _ _ (by simp)) rfl rfl (by omega) (Nat.zero_le _) ?_; intro g1 cap2 w1 hA; obtain ⟨q1, q2⟩ := HA1.out _ _ _ _ _ _ hA)
      all_goals
        go_wp2
        go_roundw
        case measure => simp [intOf]; omega
        case rel =>
          have h1 := HX.out
          subst h1
          exact ⟨k + 1, by go_num, by omega, begin_next HD.out HSS.out HFd.out HF.out HK.out hk HE.out (by assumption)⟩
    · obtain rfl : k = subs.length := by omega
      clear hbr hown hd
      go_wp2
      go_ret
      exact ⟨rfl, F, ⟨v, vs, HD.out, HSS.out, HFd.out⟩, HF.out, HK.out⟩
end Go.Proofs.YtklhlffdpojkoaaGreat

/-
  What dealing in rows comes to, as lists; the frame of its loops.
-/
namespace Go.Proofs.YtklhlffdpojkoaaGreat
open Go.RowKit Fx

/-- One member is given a run of partitions. -/
def giveRun (m : Nat) (s : ByteArray) : (cnt : Nat) → (next : Nat) → List ShareC → List ShareC
  | 0, _, l => l
  | c + 1, next, l => giveRun m s c (next + 1) (giveL l m s next)
theorem giveRun_succ (m : Nat) (s : ByteArray) : ∀ (c next : Nat) (l : List ShareC), giveRun m s (c + 1) next l = giveL (giveRun m s c next l) m s ((next : Int) + c)
  | 0, next, l => by simp [giveRun]
  | c + 1, next, l => by
    rw [giveRun, giveRun_succ m s c (next + 1), giveRun]
    rw [show ((next + 1 : Nat) : Int) + c = (next : Int) + (c + 1 : Nat) by omega]
/-- How many the k-th of n takers gets out of p. -/
def cntOf (p n k : Nat) : Nat := (p + n - 1 - k) / n
/-- The first k takers have been served: the shares, and the next partition. -/
def serveTo (tk : List Nat) (s : ByteArray) (p : Nat) : (k : Nat) → List ShareC → List ShareC × Nat
  | 0, l => (l, 0)
  | k + 1, l => (giveRun (tk.getD k 0) s (cntOf p tk.length k) (serveTo tk s p k l).2 (serveTo tk s p k l).1, (serveTo tk s p k l).2 + cntOf p tk.length k)
/-- The first t topics have been dealt in rows. -/
def rangeTo (subs : List SubC) (tops : List TopC) : (t : Nat) → List ShareC
  | 0 => emptyL subs
  | t + 1 => (serveTo (takersL subs (tops.getD t ⟨⟨#[]⟩, 0⟩).name) (tops.getD t ⟨⟨#[]⟩, 0⟩).name (tops.getD t ⟨⟨#[]⟩, 0⟩).parts.toNat (takersL subs (tops.getD t ⟨⟨#[]⟩, 0⟩).name).length (rangeTo subs tops t)).1
def rangeL (subs : List SubC) (tops : List TopC) : List ShareC := rangeTo subs tops tops.length

/-- Shares of n members, with at most c partitions each. -/
def LOk (n c : Nat) (l : List ShareC) : Prop := l.length = n ∧ ∀ i (h : i < l.length), l[i].parts.length ≤ c
theorem LOk.mono {n c c' : Nat} {l : List ShareC} (h : LOk n c l) (hc : c ≤ c') : LOk n c' l := ⟨h.1, fun i hi => Nat.le_trans (h.2 i hi) hc⟩
theorem LOk.give {n c : Nat} {l : List ShareC} (h : LOk n c l) (m : Nat) (s : ByteArray) (i : Int) : LOk n (c + 1) (giveL l m s i) := by
  refine ⟨by simp [giveL, h.1], fun j hj => ?_⟩
  have hj' : j < l.length := by simpa [giveL] using hj
  have := h.2 j hj'
  simp only [giveL, List.getElem_modify]
  split
  · simp; omega
  · omega
theorem LOk.run {n : Nat} (m : Nat) (s : ByteArray) : ∀ (cnt next c : Nat) (l : List ShareC), LOk n c l → LOk n (c + cnt) (giveRun m s cnt next l)
  | 0, _, _, _, h => h
  | cnt + 1, next, c, l, h => by
    have := LOk.run m s cnt (next + 1) (c + 1) _ (h.give m s next)
    rwa [show c + 1 + cnt = c + (cnt + 1) by omega] at this
theorem LOk.empty (subs : List SubC) : LOk subs.length 0 (emptyL subs) := ⟨by simp [emptyL], fun i hi => by simp [emptyL]⟩
theorem LOk.serve {n c p : Nat} (tk : List Nat) (s : ByteArray) {l : List ShareC} (h : LOk n c l) : ∀ k, LOk n (c + (serveTo tk s p k l).2) (serveTo tk s p k l).1
  | 0 => by simpa [serveTo] using h
  | k + 1 => by
    have := LOk.run (tk.getD k 0) s (cntOf p tk.length k) (serveTo tk s p k l).2 _ _ (LOk.serve (p := p) tk s h k)
    simpa [serveTo, Nat.add_assoc] using this
/-- All of n takers together get p. -/
theorem cnt_le (p n k : Nat) (_hk : k < n) : cntOf p n k * n ≤ p + n - 1 - k := Nat.div_mul_le_self _ _
theorem serve_next (tk : List Nat) (s : ByteArray) (p : Nat) (l : List ShareC) : ∀ k, (serveTo tk s p k l).2 ≤ k * p
  | 0 => by simp [serveTo]
  | k + 1 => by
    have h1 := serve_next tk s p l k
    have h2 : cntOf p tk.length k ≤ p := by
      unfold cntOf
      by_cases hn : tk.length = 0
      · rw [hn]; simp
      · by_cases hp : p = 0
        · subst hp
          rw [Nat.div_eq_of_lt (by omega)]
          exact Nat.zero_le _
        · have : p + tk.length - 1 - k ≤ p * tk.length := by
            have h3 : p + tk.length - 1 ≤ p * tk.length := by
              obtain ⟨q, rfl⟩ : ∃ q, p = q + 1 := ⟨p - 1, by omega⟩
              obtain ⟨r, hr⟩ : ∃ r, tk.length = r + 1 := ⟨tk.length - 1, by omega⟩
              rw [hr]
              simp only [Nat.add_mul, Nat.mul_add]
              omega
            omega
          exact Nat.div_le_of_le_mul (by rw [Nat.mul_comm]; exact this)
    simp only [serveTo]
    rw [Nat.add_mul]
    omega
theorem LOk.range {subs : List SubC} {tops : List TopC} (hs : subs.length ≤ 20) (ht : ∀ j (h : j < tops.length), 1 ≤ tops[j].parts ∧ tops[j].parts ≤ 16) : ∀ t, t ≤ tops.length → LOk subs.length (t * 320) (rangeTo subs tops t)
  | 0, _ => by simpa [rangeTo] using LOk.empty subs
  | t + 1, h => by
    have h1 := LOk.range hs ht t (by omega)
    have h2 := LOk.serve (p := (tops.getD t ⟨⟨#[]⟩, 0⟩).parts.toNat) (takersL subs (tops.getD t ⟨⟨#[]⟩, 0⟩).name) (tops.getD t ⟨⟨#[]⟩, 0⟩).name h1 (takersL subs (tops.getD t ⟨⟨#[]⟩, 0⟩).name).length
    have h3 := serve_next (takersL subs (tops.getD t ⟨⟨#[]⟩, 0⟩).name) (tops.getD t ⟨⟨#[]⟩, 0⟩).name (tops.getD t ⟨⟨#[]⟩, 0⟩).parts.toNat (rangeTo subs tops t) (takersL subs (tops.getD t ⟨⟨#[]⟩, 0⟩).name).length
    have h4 : (takersL subs (tops.getD t ⟨⟨#[]⟩, 0⟩).name).length ≤ 20 := Nat.le_trans (takeTo_len _ _ _) hs
    have h5 : (tops.getD t ⟨⟨#[]⟩, 0⟩).parts.toNat ≤ 16 := by
      have := (ht t (by omega)).2
      simp only [List.getD, List.getElem?_eq_getElem (show t < tops.length by omega), Option.getD_some]
      omega
    have h6 : (takersL subs (tops.getD t ⟨⟨#[]⟩, 0⟩).name).length * (tops.getD t ⟨⟨#[]⟩, 0⟩).parts.toNat ≤ 20 * 16 := Nat.mul_le_mul h4 h5
    exact h2.mono (by omega)

/-- In the middle of a topic: a deal, whose footprint was Ft when the topic's takers were known (world wt). -/
def MidRel (wt : World) (d : Nat) (sv : Value) (Ft : Nat → Prop) (l : List ShareC) (wq : World) : Prop :=
  ∃ F, DealAt wq d sv F l ∧ Keeps Ft wt wq ∧ ∀ j, F j → Ft j ∨ wt.heap.size ≤ j
theorem MidRel.give {wt wq w' : World} {d : Nat} {sv : Value} {Ft : Nat → Prop} {F F' : Nat → Prop} {l' : List ShareC} (hk : Keeps Ft wt wq) (hF : ∀ j, F j → Ft j ∨ wt.heap.size ≤ j)
    (h1 : DealAt w' d sv F' l') (h2 : ∀ k, F' k → F k ∨ wq.heap.size ≤ k) (h3 : Keeps F wq w') : MidRel wt d sv Ft l' w' :=
  ⟨F', h1, hk.trans h3 (fun j hj e => (hF j e).elim id fun e => by omega), fun j e => (h2 j e).elim (hF j) fun e => .inr (Nat.le_trans hk.size e)⟩
theorem DealAt.keep {w w' : World} {d : Nat} {sv : Value} {F : Nat → Prop} {l : List ShareC} (h : DealAt w d sv F l) (hk : K0 w w') : DealAt w' d sv F l := by
  obtain ⟨v, vs, h1, h2, h3⟩ := h
  exact ⟨v, vs, (hk.block d (block_lt h1) (fun e => e)).trans h1, h2.keep hk (fun _ _ e => e), h3⟩
theorem DealAt.lt {w : World} {d : Nat} {sv : Value} {F : Nat → Prop} {l : List ShareC} (h : DealAt w d sv F l) {k : Nat} (hk : F k) : k < w.heap.size := by
  obtain ⟨v, vs, h1, h2, h3⟩ := h
  exact h2.lt _ hk
theorem nat_cells {w0 w : World} {b off : Nat} {l : List Nat} {S : Nat → Prop} (h : RowAt 1 rNat w0 b off l) (hk : Keeps S w0 w) (hS : ¬ S b) (k : Nat) (hl : k < l.length) :
    w.cell? ⟨b, off + k, none⟩ = some (.int .i64 l[k]) ∧ b < w.heap.size := by
  obtain ⟨cs, h1, h2, rfl⟩ := h k hl
  have e0 : w0.cell? ⟨b, off + k, none⟩ = some (.int .i64 l[k]) := by have := h2 0 (by omega); simpa using this
  exact ⟨hk.cell' e0 hS, Nat.lt_of_lt_of_le (World.block_lt_of_cell? w0 _ e0) hk.size⟩
theorem takers_lt {subs : List SubC} {s : ByteArray} {k : Nat} (h : k < (takersL subs s).length) : (takersL subs s)[k] < subs.length := by
  have hm : (takersL subs s)[k] ∈ takersL subs s := List.getElem_mem h
  simp only [takersL, takeTo, List.mem_filter, List.mem_range] at hm
  exact hm.1
end Go.Proofs.YtklhlffdpojkoaaGreat

/-
  The package assign's Range: what it computes.
-/
namespace Go.Proofs.YtklhlffdpojkoaaGreat
open Go.RowKit Fx

/-- What Range and Round answer. -/
def DealPost (w : World) (er : Int) (l : List ShareC) (e : Ending) (w' : World) : Prop :=
  (er = 1 ∧ e = .returned (.tuple #[.slice none 0 0, .int .i64 1]) ∧ K0 w w') ∨
  (er = 0 ∧ ∃ v F vs, e = .returned (.tuple #[v, .int .i64 0]) ∧ SharesAt w' F v l vs ∧ (∀ k, F k → w.heap.size ≤ k) ∧ K0 w w')
def OutRel (w : World) (d : Nat) (sv : Value) (l : List ShareC) (wr : World) : Prop :=
  ∃ F, DealAt wr d sv F l ∧ (∀ j, F j → w.heap.size ≤ j) ∧ K0 w wr
theorem chk_ok {subs : List SubC} {tops : List TopC} (h : chk subs tops = 0) : subs.length ≤ 20 ∧ tops.length ≤ 20 ∧ ∀ j (h : j < tops.length), 1 ≤ tops[j].parts ∧ tops[j].parts ≤ 16 := by
  unfold chk at h
  split at h
  · rename_i hc
    simp only [checkB, Bool.and_eq_true, decide_eq_true_eq, List.all_eq_true] at hc
    exact ⟨hc.1.1.1.1.1, hc.1.1.1.1.2, fun j hj => topOk_parts _ (hc.2 _ (List.getElem_mem hj))⟩
  · cases h
theorem chk_cases (subs : List SubC) (tops : List TopC) : chk subs tops = 0 ∨ chk subs tops = 1 := by unfold chk; split <;> simp

theorem cnt_int (p n k : Nat) (hk : k < n) (hp : 1 ≤ (p : Int)) : ((p : Int) + n - 1 - k) / n = (cntOf p n k : Nat) := by
  unfold cntOf
  rw [Int.natCast_ediv]
  congr 1
  omega
set_option maxRecDepth 100000 in
set_option maxHeartbeats 2000000 in
theorem range9 (w0 w : World) (sa ta : Option Addr) (sc tc : Nat) (subs : List SubC) (tops : List TopC) (hs : SlAt 2 rSub w0 sa sc subs) (ht : SlAt 2 rTop w0 ta tc tops) (hb : Below w0.heap.size w0 w) :
    Calls Tryz.prog 107 #[.slice sa subs.length sc, .slice ta tops.length tc] w (DealPost w (chk subs tops) (rangeL subs tops)) := by
  have HC := Lib.hid (check14 w0 w sa ta sc tc subs tops hs ht hb)
  rcases chk_cases subs tops with hc | hc
  · rw [hc] at HC
    have hok := chk_ok hc
    obtain ⟨l1, l2, l3⟩ := hok
    have HCK := Lib.hid hc
    have HL3 := Lib.hid l3
    have hmt := ht.len
    have HS := Lib.hid hs
    have HT := Lib.hid ht
    have HB := Lib.hid hb
    clear hs ht hb hc l3
    go_enter Tryz.func107, Tryz.ntmps107
    go_wp2_with fail
    refine HC.out.mono ?_
    rintro e w1 ⟨rfl, k1⟩
    go_wp2_with fail
    refine (begin18 w0 w1 sa sc subs HS.out (K0.after k1 HB.out) (by omega)).mono ?_
    rintro e w2 ⟨rfl, F0, hD0, hF0, k2⟩
    have k12 := K0.tr k1 k2
    have hd0 : OutRel w w1.heap.size (.slice sa subs.length sc) (rangeTo subs tops 0) w2 := ⟨F0, by simpa [rangeTo, emptyTo_all] using hD0, fun j e => by have := hF0 j e; have := k1.size; omega, k12⟩
    clear k1 k2 k12 hF0 hD0 HC
    go_wp2
    generalize w1.heap.size = d at hd0 ⊢
    go_loopw [25] (fun i wr => ∃ (t : Nat), i = .int .i64 t ∧ t ≤ tops.length ∧ OutRel w d (.slice sa subs.length sc) (rangeTo subs tops t) wr) (fun i _ => tops.length - (intOf i).toNat)
    case atStart => exact ⟨0, rfl, by omega, hd0⟩
    case round =>
      clear hd0
      obtain ⟨t, rfl, ht, F, hD, hF, hkw⟩ := hrel
      have hbr := hkw.after HB.out
      have HK := Lib.hid hkw
      have HF := Lib.hid hF
      have HD := Lib.hid hD
      clear hF hkw
      by_cases hlt : t < tops.length
      · obtain ⟨b, off, rfl, hr'⟩ := HT.out.row hlt
        obtain ⟨c0, c1, hbl⟩ := top_cells hr' hbr t hlt
        obtain ⟨p, hp⟩ : ∃ p : Nat, tops[t].parts = p := ⟨tops[t].parts.toNat, by have := HL3.out t hlt; omega⟩
        have HG : Hid (tops.getD t ⟨⟨#[]⟩, 0⟩ = tops[t]) := by simp [Hid, List.getD, hlt]
        have hp1 := HL3.out t hlt
        rw [hp] at c1 hp1
        have HP := Lib.hid hp
        generalize hsn : tops[t].name = s at c0
        have HN := Lib.hid hsn
        clear hr' hp hsn
        have hdcell := DealAt.keep hD ((Keeps.refl (fun _ => False) wr).alloc (.cells #[.string s, .int .i64 p] 152))
        obtain ⟨v0, vs0, hd1, hS1, hF1⟩ := hdcell
        have hd2 := block_cell hd1 0
        simp only [List.getElem?_toArray, List.getElem?_cons_zero] at hd2
        have HTK := Lib.hid (takers19 w0 (wr.alloc (.cells #[.string s, .int .i64 p] 152)) d (.slice sa subs.length sc) sa sc subs s HS.out (hbr.alloc hbr.size _) (by omega) hd2)
        have HD1 := Lib.hid (DealAt.keep hD ((Keeps.refl (fun _ => False) wr).alloc (.cells #[.string s, .int .i64 p] 152)))
        have hbox : ¬ F wr.heap.size := fun e => by have := hD.lt e; omega
        have HBX := Lib.hid hbox
        clear hd1 hS1 hF1 hd2 hbr hD hbox
        go_wp2_with fail
        refine HTK.out.mono ?_
        rintro e wt ⟨ta', cap', rfl, hsl, hkt, hfr⟩
        have hx0 : wt.cell? ⟨wr.heap.size, 0, none⟩ = some (.string s) := hkt.cell' (by simp) (fun e => e)
        have hx1 : wt.cell? ⟨wr.heap.size, 1, none⟩ = some (.int .i64 p) := hkt.cell' (by simp) (fun e => e)
        have hMid : MidRel wt d (.slice sa subs.length sc) F (rangeTo subs tops t) wt := ⟨F, DealAt.keep HD1.out hkt, Keeps.refl _ _, fun j e => .inl e⟩
        have hsl' := Lib.hid hsl
        have HFR := Lib.hid hfr
        have HKT := Lib.hid hkt
        have hmid0 := Lib.hid hMid
        clear hsl hfr hkt hMid HD1 HTK
        have hnl : (takersL subs s).length ≤ 20 := Nat.le_trans (takeTo_len _ _ _) l1
        generalize htk : takersL subs s = tk at hsl' HFR hnl ⊢
        have HTKL := Lib.hid htk
        clear htk
        have hLO := Lib.hid (LOk.range l1 HL3.out t (by omega))
        generalize hL : rangeTo subs tops t = L at hmid0 hLO
        have HL := Lib.hid hL
        clear hL
        go_wp2
        go_loopw [11, 35] (fun nx i wq => ∃ (k : Nat), i = .int .i64 k ∧ k ≤ tk.length ∧ nx = .int .i64 (serveTo tk s p k L).2 ∧ MidRel wt d (.slice sa subs.length sc) F (serveTo tk s p k L).1 wq) (fun _ i _ => tk.length - (intOf i).toNat)
        case atStart => exact ⟨0, rfl, by omega, rfl, hmid0.out⟩
        case round =>
          obtain ⟨wo, rfl⟩ : ∃ wo : World, wo = wr := ⟨_, rfl⟩
          obtain ⟨k, rfl, hk, rfl, F1, hD1, hK1, hF1⟩ := hrel
          by_cases hlt2 : k < tk.length
          · obtain ⟨b2, off2, rfl, hr2⟩ := hsl'.out.row hlt2
            have hb2 : ¬ F b2 := fun e => by have := HFR.out b2 rfl; have := HD.out.lt e; simp at *; omega
            obtain ⟨d0, hbl2⟩ := nat_cells hr2 hK1 hb2 k hlt2
            have y0 := hK1.cell' hx0 HBX.out
            have y1 := hK1.cell' hx1 HBX.out
            have hm1 : tk[k] < subs.length := by have h5 := HTKL.out; subst h5; exact takers_lt hlt2
            clear hr2 hb2
            have HLk := Lib.hid (hLO.out.serve (p := p) tk s k)
            have hcl := serve_next tk s p L k
            have hcl2 : k * p ≤ 20 * 16 := Nat.mul_le_mul (by omega) (by omega)
            have hcl3 : (serveTo tk s p k L).2 ≤ 320 := by omega
            have HSU : Hid (serveTo tk s p (k + 1) L = (giveRun tk[k] s (cntOf p tk.length k) (serveTo tk s p k L).2 (serveTo tk s p k L).1, (serveTo tk s p k L).2 + cntOf p tk.length k)) := by
              show _ = _
              simp only [serveTo, List.getD, List.getElem?_eq_getElem hlt2, Option.getD_some]
            clear hcl hcl2
            generalize hsv : serveTo tk s p k L = sv at hD1 hcl3 HLk HSU ⊢
            obtain ⟨lk, nx⟩ := sv
            clear hsv
            dsimp only at hD1 hcl3 HLk HSU ⊢
            have hE := cnt_int p tk.length k hlt2 hp1.1
            have hq1 : 0 ≤ ((p : Int) + tk.length - 1 - k) / tk.length := by rw [hE]; omega
            have hq2 : ((p : Int) + tk.length - 1 - k) / tk.length ≤ 36 := by rw [hE]; have := cnt_le p tk.length k hlt2; have := Nat.div_le_self (p + tk.length - 1 - k) tk.length; unfold cntOf; omega
            have HE := Lib.hid hE
            clear hE
            generalize tk[k] = m at d0 hm1 HSU ⊢
            go_wp2_with fail
            generalize ((p : Int) + tk.length - 1 - k) / tk.length = E at HE hq1 hq2 ⊢
            have HKo := Lib.hid hK1
            have HFo := Lib.hid hF1
            have hMo : MidRel wt d (.slice sa subs.length sc) F (giveRun m s 0 nx lk) wo := ⟨F1, hD1, hK1, hF1⟩
            clear hK1 hF1 hD1
            go_loopw [11] (fun nn wq => ∃ (j : Nat), nn = .int .i64 ((nx : Int) + j) ∧ (j : Int) ≤ E ∧ MidRel wt d (.slice sa subs.length sc) F (giveRun m s j nx lk) wq) (fun nn _ => (nx + E - intOf nn).toNat)
            case atStart => exact ⟨0, by simp, hq1, hMo⟩
            case round =>
              clear hMo
              obtain ⟨j, rfl, hj, F2, hD2, hK2, hF2⟩ := hrel
              by_cases hlt3 : (j : Int) < E
              · have y2 := hK2.cell' hx0 HBX.out
                have hLj := HLk.out.run m s j nx
                have hG2 := give20 wr d _ F2 _ m s ((nx : Int) + j) hD2 (by rw [hLj.1]; exact hm1) (by rw [hLj.1]; omega) (Nat.le_trans (hLj.2 m (by rw [hLj.1]; exact hm1)) (by have := HE.out; omega))
                have HG2 := Lib.hid hG2
                have HK2 := Lib.hid hK2
                have HF2 := Lib.hid hF2
                clear hG2 hLj hK2 hF2 hD2 y0 y1
                have hlt4 : (nx : Int) + j < nx + E := by omega
                go_wp2_with fail
                refine HG2.out.mono ?_
                rintro e wz ⟨rfl, F3, hD3, hF3, hK3⟩
                have HM := Lib.hid (MidRel.give HK2.out HF2.out hD3 hF3 hK3)
                clear hD3 hF3 hK3
                go_wp2
                go_roundw
                case rel => exact ⟨j + 1, by go_num, by omega, by rw [giveRun_succ]; exact HM.out⟩
                case measure => simp [intOf]; omega
              · have hlt4 : ¬ (nx : Int) + j < nx + E := by omega
                have HM : Hid (MidRel wt d (.slice sa subs.length sc) F (serveTo tk s p (k + 1) L).1 wr) := by
                  rw [HSU.out]
                  obtain rfl : j = cntOf p tk.length k := by have := HE.out; omega
                  exact ⟨F2, hD2, hK2, hF2⟩
                have HN2 : Hid ((nx : Int) + j = (serveTo tk s p (k + 1) L).2) := by
                  rw [HSU.out]
                  have := HE.out
                  show (nx : Int) + j = (nx + cntOf p tk.length k : Nat)
                  omega
                clear hK2 hF2 hD2 y0 y1
                go_wp2
                go_roundw
                case rel => exact ⟨k + 1, by go_num, by omega, by rw [HN2.out], HM.out⟩
                case measure => simp [intOf]; omega
          · obtain rfl : k = tk.length := by omega
            have HM : Hid (OutRel w d (.slice sa subs.length sc) (rangeTo subs tops (t + 1)) wo) := by
              have hq : rangeTo subs tops (t + 1) = (serveTo tk s p tk.length L).1 := by
                simp only [rangeTo]
                rw [HG.out, HN.out, HTKL.out, HP.out, HL.out]
                rfl
              rw [hq]
              refine ⟨F1, hD1, fun j e => ?_, ?_⟩
              · rcases hF1 j e with e | e
                · exact HF.out j e
                · have := HK.out.size; have := HKT.out.size; simp at this; omega
              · exact (K0.tr (K0.tr HK.out ((Keeps.refl (fun _ => False) _).alloc _)) HKT.out).trans hK1 (fun j hj e => by have := HF.out j e; omega)
            clear hD1 hK1 hF1
            go_wp2
            go_roundw
            case rel => exact ⟨t + 1, by go_num, by omega, HM.out⟩
            case measure => simp [intOf]; omega
      · obtain rfl : t = tops.length := by omega
        obtain ⟨v, vs, hd1, hS1, hF1⟩ := HD.out
        have hc1 := block_cell hd1 1
        simp only [List.getElem?_toArray, List.getElem?_cons_succ, List.getElem?_cons_zero] at hc1
        have HS1 := Lib.hid hS1
        clear hd1 hS1 hF1 hbr hD
        go_wp2
        go_ret2
        exact .inr ⟨HCK.out, v, F, vs, rfl, HS1.out, HF.out, HK.out⟩
  · rw [hc] at HC
    clear hs ht hb
    go_enter Tryz.func107, Tryz.ntmps107
    go_wp2_with fail
    refine HC.out.mono ?_
    rintro e w1 ⟨rfl, k1⟩
    go_wp2
    go_ret2
    exact .inl ⟨hc, rfl, k1⟩
end Go.Proofs.YtklhlffdpojkoaaGreat

/-
  The library's binary search in a rising list of places.
-/
namespace Go.Proofs.YtklhlffdpojkoaaGreat
open Go.RowKit Fx

set_option maxRecDepth 100000 in
set_option maxHeartbeats 1000000 in
theorem less33 (x y : Int) (w : World) : Calls Tryz.prog 130 #[.int .i64 x, .int .i64 y] w fun e w' => e = .returned (.bool (decide (x < y))) ∧ w = w' := by
  go_enter Tryz.func130, Tryz.ntmps130
  go_wp2
  all_goals
    go_ret
    exact ⟨by simp; try omega, rfl⟩

set_option maxRecDepth 100000 in
set_option maxHeartbeats 1000000 in
theorem nan34 (x : Int) (w : World) : Calls Tryz.prog 131 #[.int .i64 x] w fun e w' => e = .returned (.bool false) ∧ w = w' := by
  have h : (x != x) = false := by simp
  go_enter Tryz.func131, Tryz.ntmps131
  go_wp2
  go_ret
  exact ⟨rfl, rfl⟩
/-- How many of the list are below x. -/
def below (l : List Nat) (x : Int) : Nat := (l.filter fun (i : Nat) => decide ((i : Int) < x)).length
theorem below_at {l : List Nat} (_hl : l.Pairwise (· < ·)) {x : Int} {i : Nat} (hi : i ≤ l.length) (h1 : ∀ j (h : j < l.length), j < i → (l[j] : Int) < x) (h2 : ∀ j (h : j < l.length), i ≤ j → x ≤ l[j]) : below l x = i := by
  unfold below
  have e : l = l.take i ++ l.drop i := (List.take_append_drop i l).symm
  rw [e, List.filter_append, List.length_append]
  have a1 : (l.take i).filter (fun (i : Nat) => decide ((i : Int) < x)) = l.take i := by
    rw [List.filter_eq_self]
    intro y hy
    obtain ⟨j, hj, rfl⟩ := List.mem_iff_getElem.1 hy
    have hj' : j < i ∧ j < l.length := by simp at hj; omega
    rw [List.getElem_take]
    simpa using h1 j hj'.2 hj'.1
  have a2 : (l.drop i).filter (fun (i : Nat) => decide ((i : Int) < x)) = [] := by
    rw [List.filter_eq_nil_iff]
    intro y hy
    obtain ⟨j, hj, rfl⟩ := List.mem_iff_getElem.1 hy
    have hj' : i + j < l.length := by simp at hj; omega
    rw [List.getElem_drop]
    have := h2 (i + j) hj' (by omega)
    simpa using this
  rw [a1, a2]
  simp
  omega

/-- A place, and whether it was found. -/
def FoundAt (n : Nat) (e : Ending) : Prop := ∃ f, e = .returned (.tuple #[.int .i64 n, .bool f])
set_option maxRecDepth 100000 in
set_option maxHeartbeats 1000000 in
theorem search22 (w0 w : World) (S : Nat → Prop) (sa : Option Addr) (sc : Nat) (l : List Nat) (x : Int) (hs : SlAt 1 rNat w0 sa sc l) (hk : Keeps S w0 w) (hS : ∀ b, (Value.slice sa l.length sc).ownBlock = some b → ¬ S b) (hl : l.Pairwise (· < ·)) (hn : l.length ≤ 1000) :
    Calls Tryz.prog 124 #[.slice sa l.length sc, .int .i64 x] w fun e w' => FoundAt (below l x) e ∧ w = w' := by
  have hmono : ∀ i j (hi : i < l.length) (hj : j < l.length), i < j → l[i] < l[j] := fun i j hi hj h => List.pairwise_iff_getElem.1 hl i j hi hj h
  have HS := Lib.hid hs
  have HM := Lib.hid hmono
  have HSS := Lib.hid hS
  have HL := Lib.hid hl
  clear hs hmono hS hl
  go_enter Tryz.func124, Tryz.ntmps124
  go_wp2
  go_loop [7, 8] (fun i j => ∃ (a b : Nat), i = .int .i64 a ∧ j = .int .i64 b ∧ a ≤ b ∧ b ≤ l.length ∧ (∀ k (h : k < l.length), k < a → (l[k] : Int) < x) ∧ (∀ k (h : k < l.length), b ≤ k → x ≤ l[k])) (fun i j => (intOf j - intOf i).toNat)
  case atStart => exact ⟨0, l.length, rfl, rfl, by omega, by omega, fun k _ h => by omega, fun k _ h => by omega⟩
  case round =>
    obtain ⟨a, b, rfl, rfl, hab, hb, h1, h2⟩ := hrel
    have H1 := Lib.hid h1
    have H2 := Lib.hid h2
    clear h1 h2
    by_cases hlt : a < b
    · have hc : (a + b) / 2 < l.length := by omega
      obtain ⟨bb, off, rfl, hr'⟩ := HS.out.row hc
      obtain ⟨d0, hbl⟩ := nat_cells hr' hk (HSS.out bb rfl) _ hc
      clear hr'
      by_cases hy : (l[(a + b) / 2] : Int) < x
      · have HH : Hid (∀ k (h : k < l.length), k < (a + b) / 2 + 1 → (l[k] : Int) < x) := by
          intro k h hk2
          rcases Nat.lt_or_ge k ((a + b) / 2) with h3 | h3
          · have := HM.out k _ h hc h3
            omega
          · obtain rfl : k = (a + b) / 2 := by omega
            exact hy
        have hyd : decide ((l[(a + b) / 2] : Int) < x) = true := by simpa using hy
        have HY := Lib.hid hyd
        generalize l[(a + b) / 2] = y at d0 hy HY
        clear hyd
        go_wp2_with fail
        refine (less33 _ _ _).mono ?_
        rintro e w' ⟨rfl, rfl⟩
        rw [HY.out]
        go_wp2
        go_round
        case rel => exact ⟨(a + b) / 2 + 1, b, by go_num, rfl, by omega, hb, HH.out, H2.out⟩
        case measure => simp [intOf]; omega
      · have HH : Hid (∀ k (h : k < l.length), (a + b) / 2 ≤ k → x ≤ (l[k] : Int)) := by
          intro k h hk2
          rcases Nat.lt_or_ge ((a + b) / 2) k with h3 | h3
          · have := HM.out _ k hc h h3
            omega
          · obtain rfl : k = (a + b) / 2 := by omega
            omega
        have hyd : decide ((l[(a + b) / 2] : Int) < x) = false := by simpa using hy
        have HY := Lib.hid hyd
        generalize l[(a + b) / 2] = y at d0 hy HY
        clear hyd
        go_wp2_with fail
        refine (less33 _ _ _).mono ?_
        rintro e w' ⟨rfl, rfl⟩
        rw [HY.out]
        go_wp2
        go_round
        case rel => exact ⟨a, (a + b) / 2, rfl, by go_num, by omega, by omega, H1.out, HH.out⟩
        case measure => simp [intOf]; omega
    · obtain rfl : a = b := by omega
      have HB := Lib.hid (below_at HL.out hb H1.out H2.out)
      by_cases hlt2 : a < l.length
      · obtain ⟨bb, off, rfl, hr'⟩ := HS.out.row hlt2
        obtain ⟨d0, hbl⟩ := nat_cells hr' hk (HSS.out bb rfl) _ hlt2
        clear hr' hab hlt
        have h9 : ¬ a < a := by omega
        generalize l[a] = y at d0
        by_cases hy : (y : Int) = x
        · have hy1 : ((y : Int) == x) = true := by simpa using hy
          have HY := Lib.hid hy
          clear hy
          go_wp2
          go_ret2
          refine ⟨⟨true, ?_⟩, rfl⟩
          rw [HB.out]
          rfl
        · have hy1 : ((y : Int) == x) = false := by simpa using hy
          clear hy
          go_wp2_with (go_at_call 131; refine (nan34 _ _).mono ?_; rintro e w' ⟨rfl, rfl⟩)
          go_ret2
          refine ⟨⟨false, ?_⟩, rfl⟩
          rw [HB.out]
          rfl
      · clear hab hlt
        have h9 : ¬ a < a := by omega
        go_wp2
        go_ret2
        refine ⟨⟨false, ?_⟩, rfl⟩
        rw [HB.out]
        rfl
end Go.Proofs.YtklhlffdpojkoaaGreat
