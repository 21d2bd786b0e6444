/-
  Shares without partitions; one partition given.
-/
import Derived.Test.YtlmajhkhlmkeiaaAf
import Derived.Deep.RegionHeld3
namespace Go.Proofs.Ytlmajhkhlmkeiaa
open Go.RowKit Fx

/-- A deal in block d: the members as they came in; the shares, which it owns. -/
def DealAt (w : World) (d : Nat) (sv : Value) (F : Nat → Prop) (l : List ShareC) : Prop :=
  ∃ v vs, w.heap[d]? = some (.cells #[sv, v] 107 (0, 0)) ∧ SharesAt w F v l vs ∧ ¬ F d
def emptyL (subs : List SubC) : List ShareC := subs.map fun s => ⟨s.member, []⟩
def emptyTo (subs : List SubC) (k : Nat) : List ShareC := (emptyL subs).take k
theorem emptyTo_succ {subs : List SubC} {k : Nat} (h : k < subs.length) : emptyTo subs (k + 1) = emptyTo subs k ++ [⟨subs[k].member, []⟩] := by
  unfold emptyTo emptyL
  rw [List.take_succ_eq_append_getElem (by simpa using h)]
  simp
theorem emptyTo_len {subs : List SubC} {k : Nat} (h : k ≤ subs.length) : (emptyTo subs k).length = k := by simp [emptyTo, emptyL]; omega

theorem emptyTo_all (subs : List SubC) : emptyTo subs subs.length = emptyL subs := by unfold emptyTo; rw [List.take_of_length_le (by simp [emptyL])]
def giveL (l : List ShareC) (m : Nat) (s : ByteArray) (i : Int) : List ShareC := l.modify m fun x => ⟨x.member, x.parts ++ [⟨s, i⟩]⟩

set_option maxRecDepth 100000 in
set_option maxHeartbeats 1000000 in
theorem give20 (w : World) (d : Nat) (sv : Value) (F : Nat → Prop) (l : List ShareC) (m : Nat) (s : ByteArray) (i : Int) (h : DealAt w d sv F l) (hm : m < l.length) (hl : l.length ≤ 100) (hp : l[m].parts.length ≤ 100000) :
    Calls Try.prog 70 #[.pointer (some ⟨d, 0, none⟩), .int .i64 m, .string s, .int .i64 i] w fun e w' => e = .returned (.tuple #[]) ∧ ∃ F', DealAt w' d sv F' (giveL l m s i) ∧ (∀ k, F' k → F k ∨ w.heap.size ≤ k) ∧ Keeps F w w' := by
  obtain ⟨v, vs, hd, hS, hF⟩ := h
  obtain ⟨g, cap, rfl, _, hglt⟩ := hS.row.form (by omega)
  have hv : m < vs.length := by rw [hS.len]; exact hm
  have hrowcell : w.cell? ⟨g, m * 2 + 1, none⟩ = some vs[m] := (hS.row.cellAt (m * 2 + 1) (by omega)).trans (shCells_value _ _ _ hv hS.len)
  have hrowfree : w.frozen? ⟨g, m * 2 + 1, none⟩ = false := hS.row.frozenAt _
  have hown := hS.parts m hm
  have c1 := block_cell hd 1
  have hdl := block_lt hd
  simp only [List.getElem?_toArray, List.getElem?_cons_succ, List.getElem?_cons_zero] at c1
  have hmg : vs[m].ownBlock ≠ some g := by
    rcases hS.own m hv with h1 | h1
    · rw [h1]; simp
    · simpa [Value.ownBlock] using h1
  generalize hnn : l[m].parts.length = nn at hown hp
  generalize hxs : ptCells l[m].parts = xs at hown
  generalize hpv : vs[m] = pv at hown hrowcell hmg
  have HN := Lib.hid hnn
  have HX := Lib.hid hxs
  have HP := Lib.hid hpv
  have HS := Lib.hid hS
  have HD := Lib.hid hd
  have HF := Lib.hid hF
  have hA1 : ∀ (o : Obj) (x : Value) (xs' : List Value) (g1 cap1 : Nat) (w1 : World), App1 (w.alloc o) 0 61 2 pv nn xs' g1 cap1 w1 → w1.cell? ⟨g, m * 2 + 1, none⟩ = some pv ∧ w1.frozen? ⟨g, m * 2 + 1, none⟩ = false := by
    intro o x xs' g1 cap1 w1 hA
    have hb : w1.heap[g]? = w.heap[g]? := (hA.grown.block g (by simp; omega) (fun e => hmg e.symm)).trans (Below.heap_alloc w o g hglt)
    exact ⟨(World.cell?_of_block (w := w) hb).trans hrowcell, (World.frozen?_of_block (w := w) hb).trans hrowfree⟩
  have HA1 := Lib.hid hA1
  clear hnn hxs hpv hS hd hF hA1
  go_enter Try.func70, Try.ntmps70
  go_wp2_with (at_builtin; refine wpList_app1 rfl rfl Try.underlying37 info41 rfl (by decide) rfl (hown.alloc _) rfl (heap_new _ _ _ rfl) rfl rfl (by omega) (Nat.zero_le _) ?_; intro g1 cap1 w1 hA; obtain ⟨q1, q2⟩ := HA1.out _ .nilIface _ _ _ _ hA)
  go_end0
  refine ⟨rfl, ?_⟩
  have h1 := HN.out
  have h2 := HX.out
  have h3 := HP.out
  subst h1 h2 h3
  have hgr : w.grownBy w1 vs[m].ownBlock := grown_alloc hA.grown
  obtain ⟨hg1, hg2⟩ := HS.out.give hm hv (p := ⟨s, i⟩) rfl hA.own hgr hA.at_ (by simp)
  refine ⟨_, ⟨_, _, ?_, hg1, ?_⟩, ?_, hg2⟩
  · exact (hg2.block d hdl HF.out).trans HD.out
  · rintro (e | e)
    · exact HF.out e
    · rcases hA.at_ with e2 | e2
      · subst e
        exact HF.out (HS.out.footP m hv _ e2)
      · simp at e2; omega
  · rintro k (e | e)
    · exact .inl e
    · rcases hA.at_ with e2 | e2
      · subst e
        exact .inl (HS.out.footP m hv _ e2)
      · right; simp at e2; omega

set_option maxRecDepth 100000 in
set_option maxHeartbeats 1000000 in
theorem empty21 (w0 w : World) (sa : Option Addr) (sc : Nat) (subs : List SubC) (hs : SlAt 2 rSub w0 sa sc subs) (hb : Below w0.heap.size w0 w) (hl : subs.length ≤ 100) :
    Calls Try.prog 74 #[.slice sa subs.length sc] w fun e w' => ∃ v F vs, e = .returned v ∧ SharesAt w' F v (emptyL subs) vs ∧ (∀ k, F k → w.heap.size ≤ k) ∧ K0 w w' := by
  have hm := hs.len
  have HS := Lib.hid hs
  have HB := Lib.hid hb
  clear hs hb
  go_enter Try.func74, Try.ntmps74
  go_wp2
  go_loopw [3, 4] (fun v i wr => ∃ (k : Nat) (F : Nat → Prop) (vs : List Value), i = .int .i64 k ∧ k ≤ subs.length ∧ SharesAt wr F v (emptyTo subs k) vs ∧ (∀ k, F k → w.heap.size ≤ k) ∧ K0 w wr) (fun _ i _ => subs.length - (intOf i).toNat)
  case atStart => exact ⟨0, fun _ => False, [], rfl, by omega, by simpa [emptyTo] using SharesAt.start w, fun _ h => h.elim, Keeps.refl _ _⟩
  case round =>
    obtain ⟨k, F, vs, rfl, hk, hS, hF, hkw⟩ := hrel
    have hbr := hkw.after HB.out
    have HK := Lib.hid hkw
    have HF := Lib.hid hF
    have HSS := Lib.hid hS
    have hown := hS.row
    clear hF hS hkw
    by_cases hlt : k < subs.length
    · obtain ⟨b, off, rfl, hr'⟩ := HS.out.row hlt
      obtain ⟨a1, cap1, c0, c1, hbl, _⟩ := sub_cells hr' hbr k hlt
      clear hr' hbr
      rw [emptyTo_len hk] at hown
      have HE := Lib.hid (emptyTo_succ hlt)
      generalize subs[k].member = mm at c0 HE
      generalize subs[k].topics.length = n at c1
      generalize hxs : shCells (emptyTo subs k) vs = xs at hown
      have HX := Lib.hid hxs
      clear hxs
      go_wp2_with (at_builtin; refine wpList_app1 rfl rfl Try.underlying92 info39 rfl (by decide) rfl (hown.alloc _) rfl (heap_new _ _ _ rfl) rfl rfl (by omega) (Nat.zero_le _) ?_; intro g1 cap2 w1 hA)
      go_roundw
      case rel =>
        have h1 := HX.out
        subst h1
        have hgr := grown_alloc hA.grown
        obtain ⟨hg1, hg2⟩ := HSS.out.more (emptyTo_len hk).symm hA.own hgr hA.at_ (by simp)
        refine ⟨k + 1, _, _, by go_num, by omega, by rw [HE.out]; exact hg1, ?_, HK.out.trans hg2 (fun j hj e => by have := HF.out j e; omega)⟩
        rintro j (e | e)
        · exact HF.out j e
        · rcases hA.at_ with e2 | e2
          · subst e; exact HF.out _ (HSS.out.foot _ e2)
          · have := HK.out.size
            simp at e2; omega
      case measure => simp [intOf]; omega
    · obtain rfl : k = subs.length := by omega
      clear hbr hown
      go_wp2
      go_ret
      refine ⟨_, F, vs, rfl, ?_, HF.out, HK.out⟩
      rw [← emptyTo_all]
      exact HSS.out

def BeginRel (w : World) (sv : Value) (subs : List SubC) (k : Nat) (wr : World) : Prop :=
  ∃ F, DealAt wr w.heap.size sv F (emptyTo subs k) ∧ (∀ j, F j → w.heap.size < j) ∧ K0 w wr
theorem begin_next {w wr w1 : World} {sv : Value} {subs : List SubC} {k : Nat} {F : Nat → Prop} {v : Value} {vs : List Value} {o1 o2 : Obj} {g1 cap2 : Nat} {mm : Int} (hd : wr.heap[w.heap.size]? = some (.cells #[sv, v] 107 (0, 0))) (hS : SharesAt wr F v (emptyTo subs k) vs)
    (hFd : ¬ F w.heap.size) (hF : ∀ j, F j → w.heap.size < j) (hkw : K0 w wr) (hk : k ≤ subs.length) (hE : emptyTo subs (k + 1) = emptyTo subs k ++ [⟨mm, []⟩])
    (hA : App1 ((wr.alloc o1).alloc o2).drew 0 95 2 v k (shCells (emptyTo subs k) vs ++ [.int .i64 mm, .slice none 0 0]) g1 cap2 w1) :
    BeginRel w sv subs (k + 1) (w1.setCell ⟨w.heap.size, 1, none⟩ (.slice (some ⟨g1, 0, none⟩) (k + 1) cap2)) := by
  have hgr := grown_alloc (grown_alloc (grown_drew hA.grown))
  have hne : v.ownBlock ≠ some w.heap.size := fun e => hFd (hS.foot _ e)
  have hlt := block_lt hd
  have hg1 : w.heap.size < g1 := by
    rcases hA.at_ with e | e
    · exact hF _ (hS.foot _ e)
    · have : g1 = wr.heap.size + 1 + 1 := by simpa using e
      omega
  obtain ⟨hg, hk2⟩ := hS.more (emptyTo_len hk).symm hA.own hgr hA.at_ (by simp; omega)
  have hd1 : w1.heap[w.heap.size]? = some (.cells #[sv, v] 107 (0, 0)) := (hgr.block _ hlt (fun e => hne e.symm)).trans hd
  have hne2 : ∀ j, (F j ∨ j = g1) → ¬ j = w.heap.size := by
    rintro j (e | e) e2
    · subst e2; exact hFd e
    · omega
  have hg' := hg.keep ((Keeps.refl (fun j => j = w.heap.size) w1).setC 1 (.slice (some ⟨g1, 0, none⟩) (k + 1) cap2) (fun _ => rfl)) hne2
  rw [← hE] at hg'
  refine ⟨fun j => F j ∨ j = g1, ⟨_, _, setCell_block hd1 1 _, hg', fun e => hne2 _ e rfl⟩, ?_, ?_⟩
  · rintro j (e | e)
    · exact hF j e
    · omega
  · exact (hkw.trans hk2 (fun j hj e => by have := hF j e; omega)).setC 1 _ (fun h => by omega)
set_option maxRecDepth 100000 in
set_option maxHeartbeats 1000000 in
theorem begin18 (w0 w : World) (sa : Option Addr) (sc : Nat) (subs : List SubC) (hs : SlAt 2 rSub w0 sa sc subs) (hb : Below w0.heap.size w0 w) (hl : subs.length ≤ 100) :
    Calls Try.prog 68 #[.slice sa subs.length sc] w fun e w' => e = .returned (.pointer (some ⟨w.heap.size, 0, none⟩)) ∧ BeginRel w (.slice sa subs.length sc) subs subs.length w' := by
  have hm := hs.len
  have HS := Lib.hid hs
  have HB := Lib.hid hb
  clear hs hb
  go_enter Try.func68, Try.ntmps68
  go_wp2
  go_loopw [11] (fun i wr => ∃ (k : Nat), i = .int .i64 k ∧ k ≤ subs.length ∧ BeginRel w (.slice sa subs.length sc) subs k wr) (fun i _ => subs.length - (intOf i).toNat)
  case atStart =>
    refine ⟨0, rfl, by omega, fun _ => False, ⟨.slice none 0 0, [], heap_new _ _ _ rfl, by simpa [emptyTo] using SharesAt.start _, fun h => h⟩, fun _ h => h.elim, (Keeps.refl _ _).alloc _⟩
  case round =>
    obtain ⟨k, rfl, hk, F, ⟨v, vs, hd, hS, hFd⟩, hF, hkw⟩ := hrel
    have hbr := hkw.after HB.out
    have HK := Lib.hid hkw
    have HF := Lib.hid hF
    have HFd := Lib.hid hFd
    have HSS := Lib.hid hS
    have HD := Lib.hid hd
    have hown := hS.row
    have hdl := block_lt hd
    have hdc := block_cell hd 1
    have hne : v.ownBlock ≠ some w.heap.size := fun e => hFd (hS.foot _ e)
    simp only [List.getElem?_toArray, List.getElem?_cons_succ, List.getElem?_cons_zero] at hdc
    clear hF hS hkw hFd
    by_cases hlt : k < subs.length
    · obtain ⟨b, off, rfl, hr'⟩ := HS.out.row hlt
      obtain ⟨a1, cap1, c0, c1, hbl, _⟩ := sub_cells hr' hbr k hlt
      clear hr' hbr
      rw [emptyTo_len hk] at hown
      have HE := Lib.hid (emptyTo_succ hlt)
      generalize subs[k].member = mm at c0 HE
      generalize subs[k].topics.length = n at c1
      generalize hxs : shCells (emptyTo subs k) vs = xs at hown
      have HX := Lib.hid hxs
      clear hxs
      have hA1 : ∀ (o1 o2 : Obj) (xs' : List Value) (g1 cap1 : Nat) (w1 : World), App1 ((wr.alloc o1).alloc o2).drew 0 95 2 v k xs' g1 cap1 w1 → w1.cell? ⟨w.heap.size, 1, none⟩ = some v ∧ w1.frozen? ⟨w.heap.size, 1, none⟩ = false := by
        intro o1 o2 xs' g1 cap1 w1 hA
        have h1 : ((wr.alloc o1).alloc o2).drew.heap[w.heap.size]? = some _ := block_alloc (block_alloc hd o1) o2
        have h2 := hA.far h1 hne
        exact ⟨block_cell h2 1, block_free h2 1⟩
      have HA1 := Lib.hid hA1
      clear hA1 hd hne
      go_wp2_with fail
      go_region_law (refine step_app1 rfl rfl Try.underlying92 info39 rfl (by decide) rfl (((hown.alloc _).alloc _).drew) rfl (heap_new_drew _ _ _ (by simp)) rfl rfl (by omega) (Nat.zero_le _) ?_; intro g1 cap2 w1 hA; obtain ⟨q1, q2⟩ := HA1.out _ _ _ _ _ _ hA)
      all_goals
        go_wp2
        go_roundw
        case measure => simp [intOf]; omega
        case rel =>
          have h1 := HX.out
          subst h1
          exact ⟨k + 1, by go_num, by omega, begin_next HD.out HSS.out HFd.out HF.out HK.out hk HE.out (by assumption)⟩
    · obtain rfl : k = subs.length := by omega
      clear hbr hown hd
      go_wp2
      go_ret
      exact ⟨rfl, F, ⟨v, vs, HD.out, HSS.out, HFd.out⟩, HF.out, HK.out⟩
end Go.Proofs.Ytlmajhkhlmkeiaa
