/-
  The program's offsets: the map of offsets in the words of the kit, and back.
-/
import Derived.Test.YtklhlffdpojkoaaGreatJ03
import Derived.Test.YtklhlffdpojkoaaGreatJ04
import Derived.DeepKeys4
import Derived.Lib.SlMapFilter
import Derived.Maps.RangeWalk
import Derived.WalkKit
import Derived.Laws.IdiomRangeMap
import Derived.Deep.LoopGhost
import Derived.Test.YtklhlffdpojkoaaGreatJ06
import Derived.Shelf.Abstract
namespace Go.Proofs.YtklhlffdpojkoaaGreat
open Go.RowKit Go.Maps Go.WideElems Go.WideShapes Fx

theorem kl_off (a b : ByteArray) (c : Int) : keyOf Tryz.prog 99 (.agg #[.string a, .string b, .int .i64 c]) =
    ((([if a.size ≤ maxLen then some [Lit.string a.data.toList] else none, ([if b.size ≤ maxLen then some [Lit.string b.data.toList] else none, if IntKind.i64 = IntKind.i64 ∧ (Lit.int .i64 c).wf = true then some [Lit.int .i64 c] else none].mapM (fun x => x)).map List.flatten] : List (Option (List Lit))).mapM (fun x => x)).map List.flatten).map fun ls => Lit.string (keyBytes ls) := by kernel_rfl
theorem offKeyed : Keyed Tryz.prog 99 := Keyed.of_law (deep_law_laid (m := 5) (by kernel_rfl) (by decide) (of_decide_eq_true (by kernel_rfl)) (by kernel_rfl) (by kernel_rfl))
/-- A key and an offset that may be. -/
structure OkP (p : OffK × Int) : Prop where
  g : p.1.group.size ≤ 100
  t : p.1.topic.size ≤ 100
  i0 : 0 ≤ p.1.index
  i1 : p.1.index ≤ 15
  a0 : 0 ≤ p.2
  a1 : p.2 ≤ 1099511627776
noncomputable def lk (k : OffK) : Lit := (keyOf Tryz.prog 99 k.enc).getD (.bool false)
theorem wf_small {x : Int} (h0 : 0 ≤ x) (h1 : x ≤ 1099511627776) : (Lit.int .i64 x).wf = true := by
  have h2 : IntKind.i64.min = -9223372036854775808 := rfl
  simp [Lit.wf]
  omega
theorem keyOf_off {p : OffK × Int} (h : OkP p) : keyOf Tryz.prog 99 p.1.enc = some (lk p.1) := by
  have h1 : p.1.group.size ≤ maxLen := by have := h.g; unfold maxLen; omega
  have h2 : p.1.topic.size ≤ maxLen := by have := h.t; unfold maxLen; omega
  have h3 := wf_small h.i0 (by have := h.i1; omega)
  have h4 : ∃ l, keyOf Tryz.prog 99 p.1.enc = some l := by
    unfold OffK.enc
    rw [kl_off, if_pos h1, if_pos h2, if_pos ⟨rfl, h3⟩]
    exact ⟨_, rfl⟩
  obtain ⟨l, hl⟩ := h4
  unfold lk
  rw [hl]
  rfl
theorem lk_inj {p q : OffK × Int} (hp : OkP p) (hq : OkP q) (h : lk p.1 = lk q.1) : p.1 = q.1 := by
  have h1 := keyOf_off hp
  have h2 := keyOf_off hq
  rw [← h] at h2
  have h3 := offKeyed.inj h1 h2
  obtain ⟨⟨a, b, c⟩, _⟩ := p
  obtain ⟨⟨a2, b2, c2⟩, _⟩ := q
  simp only [OffK.enc, Value.agg.injEq] at h3
  simp at h3
  obtain ⟨rfl, rfl, rfl⟩ := h3
  rfl
noncomputable abbrev intR : Value → Option (DataW Unit × List MemPlace) := plainElem Tryz.prog 3
theorem intR_of {p : OffK × Int} (h : OkP p) : intR (.int .i64 p.2) = some (.lit (.int .i64 p.2), []) := plainElem_int Tryz.underlying3 (wf_small h.a0 h.a1)
/-- How a row reads. -/
noncomputable def GP (p : OffK × Int) : Lit × DataW Unit := (lk p.1, .lit (.int .i64 p.2))
theorem off_owns {w : World} {ob : Nat} {L : List (OffK × Int)} (h : MapAt OffK.enc w ob (avals (.int .i64) L)) (hw : ∀ p ∈ L, OkP p) (hl : L.length ≤ 100000) :
    ∃ es0 : List (Lit × DataW Unit), w.ownsMap Tryz.prog 99 intR ob L.length (.map es0) ∧ es0.Perm (L.map GP) := by
  obtain ⟨es, clock, hb, hst, hL⟩ := h
  have hL2 : es.toList.map (fun x => (x.key, x.val)) = L.map fun p => (p.1.enc, Value.int .i64 p.2) := by
    rw [hL]; unfold avals; rw [List.map_map]; rfl
  have hlen : es.size = L.length := by have := congrArg List.length hL2; simpa using this
  have hrd : ∀ x ∈ es.toList, ∃ p ∈ L, rd Tryz.prog 99 intR x = some (GP p) ∧ (x.key, x.val) = (p.1.enc, Value.int .i64 p.2) := fun x hx => by
    have : (x.key, x.val) ∈ L.map fun p => (p.1.enc, Value.int .i64 p.2) := hL2 ▸ List.mem_map.2 ⟨x, hx, rfl⟩
    obtain ⟨p, hp, e⟩ := List.mem_map.1 this
    refine ⟨p, hp, ?_, e.symm⟩
    have e1 : x.key = p.1.enc := (congrArg Prod.fst e).symm
    have e2 : x.val = .int .i64 p.2 := (congrArg Prod.snd e).symm
    unfold WideElems.rd
    rw [e1, e2, keyOf_off (hw p hp), intR_of (hw p hp)]
    rfl
  have hm : es.toList.map (rg Tryz.prog 99 intR) = L.map GP := by
    have h1 : es.toList.map (rg Tryz.prog 99 intR) = (es.toList.map fun x => (x.key, x.val)).map fun q => ((keyOf Tryz.prog 99 q.1).bind fun key => (intR q.2).map fun y => (key, y.1)).getD (.bool false, .nil) := by
      rw [List.map_map]
      apply List.map_congr_left
      intro x _
      simp only [Function.comp, WideElems.rg, WideElems.rd]
    rw [h1, hL2, List.map_map]
    apply List.map_congr_left
    intro p hp
    dsimp only [Function.comp]
    rw [keyOf_off (hw p hp), intR_of (hw p hp)]
    simp only [Option.bind_some, Option.map_some, Option.getD_some, GP]
  refine ⟨_, ⟨es, clock, hb, ⟨by unfold maxLen; omega, hst, fun x hx => ?_⟩, by omega, rfl⟩, ?_⟩
  · obtain ⟨p, hp, e, _⟩ := hrd x hx
    exact ⟨_, e⟩
  · rw [← hm]
    exact sorted_perm _
theorem perm_map {α β : Type} (g : β → α) : ∀ {l : List α} {B : List β}, l.Perm (B.map g) → ∃ B2 : List β, B2.Perm B ∧ l = B2.map g
  | [], B, h => by
    have := h.length_eq
    have hB : B = [] := List.eq_nil_of_length_eq_zero (by simpa using this.symm)
    exact ⟨[], by rw [hB], rfl⟩
  | x :: l, B, h => by
    have hx : x ∈ B.map g := h.mem_iff.1 (List.mem_cons_self ..)
    obtain ⟨b, hb, rfl⟩ := List.mem_map.1 hx
    obtain ⟨B1, B2, rfl⟩ := List.append_of_mem hb
    have h2 : (g b :: l).Perm (g b :: (B1 ++ B2).map g) := h.trans (by
      rw [List.map_append, List.map_cons, List.map_append]
      exact List.perm_middle)
    obtain ⟨C, hC, rfl⟩ := perm_map g ((List.perm_cons _).1 h2)
    exact ⟨b :: C, (hC.cons b).trans List.perm_middle.symm, rfl⟩
theorem off_back {w : World} {ob n : Nat} {L : List (OffK × Int)} {es1 : List (Lit × DataW Unit)} (h : w.ownsMap Tryz.prog 99 intR ob n (.map es1)) (hp : es1.Perm (L.map GP)) (hw : ∀ p ∈ L, OkP p) :
    ∃ L2, MapAt OffK.enc w ob (avals (.int .i64) L2) ∧ L2.Perm L := by
  obtain ⟨es, clock, hb, F, hs, hD⟩ := h
  simp only [DataW.map.injEq] at hD
  obtain ⟨L2, h2, h3⟩ := perm_map GP ((sorted_perm (es.toList.map (rg Tryz.prog 99 intR))).symm.trans (hD ▸ hp))
  refine ⟨L2, ⟨es, clock, hb, F.stamped, ?_⟩, h2⟩
  have hw2 : ∀ p ∈ L2, OkP p := fun p hp => hw p (h2.mem_iff.1 hp)
  have hr := F.reads
  have key : ∀ (A : List MapEntry) (B : List (OffK × Int)), (∀ x ∈ A, ∃ y, rd Tryz.prog 99 intR x = some y) → (∀ p ∈ B, OkP p) → A.map (rg Tryz.prog 99 intR) = B.map GP → A.map (fun x => (x.key, x.val)) = B.map fun p => (p.1.enc, Value.int .i64 p.2) := by
    intro A
    induction A with
    | nil =>
      intro B _ _ e
      cases B with
      | nil => rfl
      | cons b B => cases e
    | cons x A ih =>
      intro B hA hB e
      cases B with
      | nil => cases e
      | cons p B =>
        simp only [List.map_cons, List.cons.injEq] at e ⊢
        refine ⟨?_, ih B (fun y hy => hA y (List.mem_cons_of_mem _ hy)) (fun y hy => hB y (List.mem_cons_of_mem _ hy)) e.2⟩
        obtain ⟨y, hy⟩ := hA x (List.mem_cons_self ..)
        have e1 := e.1
        rw [rg_of hy] at e1
        subst e1
        have hk := rd_key hy
        dsimp only [GP] at hk
        obtain ⟨z, hz, ez⟩ := rd_val hy
        obtain ⟨a, ha, rfl, _⟩ := plainElem_int_inv Tryz.underlying3 hz
        have e3 : x.key = p.1.enc := offKeyed.inj hk (keyOf_off (hB p (List.mem_cons_self ..)))
        have e4 : p.2 = a := by
          dsimp only [GP] at ez
          simpa using ez
        rw [e3, ha, e4]
  have h4 := key es.toList L2 hr hw2 h3
  rw [h4]
  unfold avals
  rw [List.map_map]
  rfl
/-- Which keys go. -/
noncomputable def goesB (L : List (OffK × Int)) (t : ByteArray) (kl : Lit) (_ : DataW Unit) : Bool := @decide (∃ p ∈ L, lk p.1 = kl ∧ p.1.topic = t) (Classical.propDecidable _)
theorem goes_at {L : List (OffK × Int)} (hw : ∀ p ∈ L, OkP p) (t : ByteArray) {p : OffK × Int} (hp : p ∈ L) (d : DataW Unit) : goesB L t (lk p.1) d = decide (p.1.topic = t) := by
  unfold goesB
  by_cases h : p.1.topic = t
  · rw [decide_eq_true h]
    exact @decide_eq_true _ (Classical.propDecidable _) ⟨p, hp, rfl, h⟩
  · rw [decide_eq_false h]
    refine @decide_eq_false _ (Classical.propDecidable _) ?_
    rintro ⟨q, hq, e, e2⟩
    exact h (by rw [← lk_inj (hw q hq) (hw p hp) e]; exact e2)
theorem goes_filter {L : List (OffK × Int)} (hw : ∀ p ∈ L, OkP p) (t : ByteArray) {es0 : List (Lit × DataW Unit)} (hp : es0.Perm (L.map GP)) :
    (es0.filter fun q => !goesB L t q.1 q.2).Perm ((L.filter fun p => !decide (p.1.topic = t)).map GP) := by
  refine (hp.filter _).trans (List.Perm.of_eq ?_)
  rw [List.filter_map]
  congr 1
  apply List.filter_congr
  intro p hp
  simp only [Function.comp, GP, goes_at hw t hp]
end Go.Proofs.YtklhlffdpojkoaaGreat

/-
  The program's offsets: Drop.
-/
namespace Go.Proofs.YtklhlffdpojkoaaGreat
open Go.RowKit Go.Maps Fx

theorem K0.gr {w w' : World} (h : K0 w w') : w.grownBy w' none := ⟨h.os, h.tape, h.output, h.size, fun i hi _ => h.block i hi (fun e => e)⟩
theorem gr_k0 {w w' : World} (h : w.grownBy w' none) : K0 w w' := ⟨h.os, h.tape, h.output, h.size, fun k hk _ => h.block k hk (by simp)⟩
theorem gr_keeps {w w' : World} {b : Nat} (h : w.grownBy w' (some b)) : Keeps (fun k => k = b) w w' := ⟨h.os, h.tape, h.output, h.size, fun k hk hne => h.block k hk (fun e => hne (by cases e; rfl))⟩
set_option maxRecDepth 100000 in
set_option maxHeartbeats 4000000 in
theorem drop1_any (g t s : ByteArray) (ix : Int) {w : World} {tc : Nat} (h : w.cell? ⟨tc, 0, none⟩ = some (.string s)) (hl : tc < w.heap.size) :
    Calls Tryz.prog 83 #[.agg #[.string g, .string t, .int .i64 ix], .pointer (some ⟨tc, 0, none⟩)] w fun e w' => e = .returned (.bool (decide (t = s))) ∧ K0 w w' := by
  by_cases hts : t = s
  · subst hts
    rw [decide_eq_true rfl]
    go_enter Tryz.func83, Tryz.ntmps83
    go_wp2
    go_ret
    exact ⟨rfl, (Keeps.refl _ _).alloc _⟩
  · rw [decide_eq_false hts]
    have e1 : (t.toList == s.toList) = false := by rw [toList_eq]; exact decide_eq_false hts
    go_enter Tryz.func83, Tryz.ntmps83
    go_wp2
    go_ret
    exact ⟨rfl, (Keeps.refl _ _).alloc _⟩
set_option maxRecDepth 100000 in
set_option maxHeartbeats 4000000 in
theorem take1_any (g t s : ByteArray) (ix c : Int) {w : World} {tc gc : Nat} (h : w.cell? ⟨tc, 0, none⟩ = some (.string s)) (hg : w.cell? ⟨gc, 0, none⟩ = some (.func (.func 83) #[] #[.pointer (some ⟨tc, 0, none⟩)])) :
    Calls Tryz.prog 114 #[.agg #[.string g, .string t, .int .i64 ix], .int .i64 c, .pointer (some ⟨gc, 0, none⟩)] w fun e w' => e = .returned (.bool (decide (t = s))) ∧ K0 w w' := by
  have hl : tc < w.heap.size := World.block_lt_of_cell? w _ h
  have hl2 : gc < w.heap.size := World.block_lt_of_cell? w _ hg
  have HD : Hid (∀ wx, K0 w wx → Calls Tryz.prog 83 #[.agg #[.string g, .string t, .int .i64 ix], .pointer (some ⟨tc, 0, none⟩)] wx fun e w' => e = .returned (.bool (decide (t = s))) ∧ K0 wx w') := fun wx hk => drop1_any g t s ix (hk.cell' h (fun e => e)) (Nat.lt_of_lt_of_le hl hk.size)
  clear h
  go_enter Tryz.func114, Tryz.ntmps114
  go_wp2_with fail
  refine (HD.out _ (by first | exact Keeps.refl _ _ | exact (Keeps.refl _ _).alloc _ | exact ((Keeps.refl _ _).alloc _).alloc _)).mono ?_
  rintro e w1 ⟨rfl, k1⟩
  have HK : Hid (K0 w w1) := by
    show Keeps _ _ _
    first | exact k1 | exact K0.tr ((Keeps.refl _ _).alloc _) k1 | exact K0.tr (((Keeps.refl _ _).alloc _).alloc _) k1
  clear k1
  go_wp2
  go_ret
  exact ⟨rfl, HK.out⟩
/-- What DeleteFunc leaves. -/
def DelP (w : World) (ob : Nat) (L : List (OffK × Int)) (t : ByteArray) (w' : World) : Prop :=
  (∃ L2, MapAt OffK.enc w' ob (avals (.int .i64) L2) ∧ L2.Perm (L.filter fun p => !decide (p.1.topic = t))) ∧ Keeps (fun k => k = ob) w w'
set_option maxRecDepth 100000 in
set_option maxHeartbeats 8000000 in
theorem delf_any {w : World} {ob tc gc : Nat} {L : List (OffK × Int)} (t : ByteArray) (h : MapAt OffK.enc w ob (avals (.int .i64) L)) (hw : ∀ p ∈ L, OkP p) (hl : L.length ≤ 100000)
    (hg : w.cell? ⟨gc, 0, none⟩ = some (.func (.func 83) #[] #[.pointer (some ⟨tc, 0, none⟩)])) (ht : w.cell? ⟨tc, 0, none⟩ = some (.string t)) (hn1 : ¬ gc = ob) (hn2 : ¬ tc = ob) :
    Calls Tryz.prog 113 #[.map (some ob), .func (.func 114) #[] #[.pointer (some ⟨gc, 0, none⟩)]] w fun e w' => e = .returned (.tuple #[]) ∧ DelP w ob L t w' := by
  obtain ⟨es0, hown, hp⟩ := off_owns h hw hl
  obtain ⟨es0', e0, hap, hkeys⟩ := hown.entries offKeyed
  cases e0
  have HP := Lib.hid hp
  have HW := Lib.hid hw
  have HAP := Lib.hid hap
  have HD : Hid (∀ W (p : OffK × Int) (c : Int), w.grownBy W (some ob) → p ∈ L → Calls Tryz.prog 114 #[p.1.enc, .int .i64 c, .pointer (some ⟨gc, 0, none⟩)] W fun e w' => e = .returned (.bool (decide (p.1.topic = t))) ∧ W.grownBy w' none) := by
    show ∀ _ _ _, _ → _ → _
    intro W p c hgr _
    have hk := gr_keeps hgr
    refine (take1_any p.1.group p.1.topic t p.1.index c (hk.cell' ht hn2) (hk.cell' hg hn1)).mono ?_
    rintro e w' ⟨rfl, k⟩
    exact ⟨rfl, K0.gr k⟩
  have HST : Hid (∀ kl, Maps.has (DataW.map es0) kl = true → ∃ p ∈ L, lk p.1 = kl) := by
    show ∀ _, _ → _
    intro kl hk
    obtain ⟨q, hq, e⟩ := List.any_eq_true.1 hk
    obtain ⟨p, hp2, rfl⟩ := List.mem_map.1 (hp.mem_iff.1 hq)
    exact ⟨p, hp2, WideAt.sameKey_eq e⟩
  have HKEYS := Lib.hid hkeys
  clear h hw hg ht hp hap hkeys hn1 hn2
  go_enter Tryz.func113, Tryz.ntmps113
  go_wp2_with (at_range; refine wpList_range_own _ rfl _ 108 rfl 99 3 offKeyed Tryz.underlying108 intR ob L.length _ rfl hown ?_; intro w0 hrg0 hg0 hs0)
  go_frame
  go_loopw [8] (fun _ wr => ∃ (left : Lit → Bool) (cnt : Nat), wr.ranges Tryz.prog 99 intR ob w.heap.size L.length (Fk (goesB L t) es0 left) left cnt ∧ w.grownBy wr (some ob) ∧ ∀ kl, left kl = true → ∃ p ∈ L, lk p.1 = kl)
    (fun _ wr => wr.rangeLeft ob w.heap.size)
  case atStart => exact ⟨_, _, by rw [Fk_start HKEYS.out]; exact hrg0, hg0.but _, HST.out⟩
  case round =>
    obtain ⟨left, cnt, hrg, hgw, hlf⟩ := hrel
    have HLF := Lib.hid hlf
    clear hlf
    go_wp2_with (at_next; refine wpList_next_ranges _ rfl _ rfl 99 offKeyed intR id id (fun key _ _ => ⟨key, rfl⟩) (fun v _ _ => ⟨v, rfl⟩) ob w.heap.size L.length _ _ _ rfl hrg ?_ ?_)
    · intro _ hl0
      have HFIN : Hid (DelP w ob L t wr) := by
        have h9 := hrg.owns
        rw [Fk_end hl0] at h9
        exact ⟨off_back h9 (goes_filter HW.out t HP.out) (fun p hp => HW.out p ((List.mem_filter.1 hp).1)), gr_keeps hgw⟩
      clear hrg hgw
      go_wp2
      go_end0
      exact ⟨rfl, HFIN.out⟩
    · intro x c kl yd yp w1 cnt1 hkey hlx hv hat hrg1 hlt hg1 hs1 hen
      obtain ⟨p, hpL, rfl⟩ := HLF.out kl hlx
      obtain rfl : x = p.1.enc := offKeyed.inj hkey (keyOf_off (HW.out p hpL))
      obtain ⟨a, ha, e, _⟩ := plainElem_int_inv Tryz.underlying3 hv
      have ha : c = .int .i64 a := ha
      subst ha
      simp only [Prod.mk.injEq] at e
      obtain ⟨rfl, rfl⟩ := e
      have hgw1 := hgw.andThen hg1 (fun j hj => by cases hj; exact Or.inl (Nat.le_refl _))
      have HRG1 := Lib.hid hrg1
      have HGW1 := Lib.hid hgw1
      have HRG := Lib.hid hrg
      have HKEY := Lib.hid hkey
      have HLX := Lib.hid hlx
      have HAT := Lib.hid hat
      have HLT := Lib.hid hlt
      have HPL := Lib.hid hpL
      have HGA := Lib.hid (goes_at HW.out t hpL (.lit (.int .i64 a)))
      have HNB : Hid (w.heap.size ≤ w1.heap.size ∧ ob < w1.heap.size ∧ w.heap.size < w1.heap.size) := ⟨hgw1.size, hrg1.owns.lt, hrg1.lt⟩
      clear hrg1 hgw1 hrg hkey hlx hat hlt hgw hg1 hs1 hv hrg0 hg0 hs0 hown
      have HCALL := Lib.hid (fun W (hk : K0 w1 W) => HD.out W p a (HGW1.out.andThen (K0.gr hk) (fun j hj => by cases hj)) HPL.out)
      generalize hpk : p.1 = k at *
      obtain ⟨kg, kt, ki⟩ := k
      unfold OffK.enc at *
      clear hpL
      by_cases hts : kt = t
      · have hd : decide (kt = t) = true := decide_eq_true hts
        first | rw [hd] at HCALL HGA | (dsimp only at HCALL HGA; rw [hd] at HCALL HGA)
        clear hd hts
        go_wp2_with fail
        refine (HCALL.out _ ((Keeps.refl _ _).alloc _)).mono ?_
        rintro e w2 ⟨rfl, hg2⟩
        have hkc : K0 (w1.alloc (.cells #[.string kg, .string kt, .int .i64 ki] 99)) w2 := gr_k0 hg2
        have bx := (hkc.block w1.heap.size (by simp) (fun e => e)).trans (heap_new _ _ _ rfl)
        have q0 : w2.cell? ⟨w1.heap.size, 0, none⟩ = some (.string kg) := block_cell bx 0
        have q1 : w2.cell? ⟨w1.heap.size, 1, none⟩ = some (.string kt) := block_cell bx 1
        have q2 : w2.cell? ⟨w1.heap.size, 2, none⟩ = some (.int .i64 ki) := block_cell bx 2
        have ql := block_lt bx
        have HK2 : Hid (K0 w1 w2) := K0.tr ((Keeps.refl _ _).alloc _) hkc
        have hrg2 := HRG1.out.kept (K0.gr HK2.out) (by simp) (by simp)
        have HGW2 := Lib.hid (HGW1.out.andThen (K0.gr HK2.out) (fun j hj => by cases hj))
        clear hg2 hkc bx
        go_wp2_with (at_delete; refine wpList_delete_ranges _ rfl _ _ 108 99 rfl 3 offKeyed Tryz.underlying108 intR ob w.heap.size L.length _ _ _ rfl hrg2 _ _ rfl HKEY.out ?_; intro w3 cnt3 hrg3 hle hturn; go_frame)
        rw [strike_twice] at hrg3
        go_roundw
        case rel => exact ⟨_, cnt3, by rw [← Fk_struck HAP.out (offKeyed.key HKEY.out) HLX.out HGA.out HAT.out]; exact hrg3, HGW2.out.andThen hturn.grown (fun j hj => by cases hj; exact Or.inr rfl), fun kl h => HLF.out kl (Bool.and_eq_true_iff.1 h).1⟩
        case measure => rw [hrg3.left_eq, HRG.out.left_eq]; have := HLT.out; omega
      · have hd : decide (kt = t) = false := decide_eq_false hts
        first | rw [hd] at HCALL HGA | (dsimp only at HCALL HGA; rw [hd] at HCALL HGA)
        clear hd hts
        go_wp2_with fail
        refine (HCALL.out _ ((Keeps.refl _ _).alloc _)).mono ?_
        rintro e w2 ⟨rfl, hg2⟩
        have hkc : K0 (w1.alloc (.cells #[.string kg, .string kt, .int .i64 ki] 99)) w2 := gr_k0 hg2
        have bx := (hkc.block w1.heap.size (by simp) (fun e => e)).trans (heap_new _ _ _ rfl)
        have q0 : w2.cell? ⟨w1.heap.size, 0, none⟩ = some (.string kg) := block_cell bx 0
        have q1 : w2.cell? ⟨w1.heap.size, 1, none⟩ = some (.string kt) := block_cell bx 1
        have q2 : w2.cell? ⟨w1.heap.size, 2, none⟩ = some (.int .i64 ki) := block_cell bx 2
        have ql := block_lt bx
        have HK2 : Hid (K0 w1 w2) := K0.tr ((Keeps.refl _ _).alloc _) hkc
        have hrg2 := HRG1.out.kept (K0.gr HK2.out) (by simp) (by simp)
        have HGW2 := Lib.hid (HGW1.out.andThen (K0.gr HK2.out) (fun j hj => by cases hj))
        clear hg2 hkc bx
        have HRG2 := Lib.hid hrg2
        clear hrg2
        go_wp2
        go_roundw
        case rel => exact ⟨_, cnt1, by rw [← Fk_stays HAP.out (offKeyed.key HKEY.out) HLX.out HGA.out HAT.out]; exact HRG2.out, HGW2.out, fun kl h => HLF.out kl (Bool.and_eq_true_iff.1 h).1⟩
        case measure => rw [HRG2.out.left_eq, HRG.out.left_eq]; exact HLT.out
end Go.Proofs.YtklhlffdpojkoaaGreat

/-
  The program's offsets: take and Drop.
-/
namespace Go.Proofs.YtklhlffdpojkoaaGreat
open Go.RowKit Fx

/-- What Drop leaves of the program's offsets. -/
def OffDropP (w : World) (tb ob : Nat) (C : OffC) (t : ByteArray) (e : Ending) (w' : World) : Prop :=
  e = .returned (.int .i64 (dropN C t)) ∧ (∃ L2, OffAt w' tb ob ⟨C.room, L2⟩ ∧ L2.Perm (dropO C t).all) ∧ Keeps (fun k => k = ob) w w'
set_option maxRecDepth 100000 in
set_option maxHeartbeats 4000000 in
theorem offtake_any {w : World} {tb ob tc : Nat} {C : OffC} (t : ByteArray) (h : OffAt w tb ob C) (hw : ∀ p ∈ C.all, OkP p) (hl : C.all.length ≤ 100000) (ht : w.cell? ⟨tc, 0, none⟩ = some (.string t)) (hn : ¬ tc = ob) :
    Calls Tryz.prog 82 #[.pointer (some ⟨tb, 0, none⟩), .func (.func 83) #[] #[.pointer (some ⟨tc, 0, none⟩)]] w (OffDropP w tb ob C t) := by
  have HA : Hid (K0 w (w.alloc (.cells #[.func (.func 83) #[] #[.pointer (some ⟨tc, 0, none⟩)]] 140))) := (Keeps.refl _ _).alloc _
  have h1 := h.keep HA.out (fun e => e) (fun e => e)
  have H1 := Lib.hid h1
  have hob : ob < w.heap.size := h.map.lt
  have hg : (w.alloc (.cells #[.func (.func 83) #[] #[.pointer (some ⟨tc, 0, none⟩)]] 140)).cell? ⟨w.heap.size, 0, none⟩ = some (.func (.func 83) #[] #[.pointer (some ⟨tc, 0, none⟩)]) := block_cell (heap_new _ _ _ rfl) 0
  have HDEL := Lib.hid (delf_any t h1.map hw hl hg (HA.out.cell' ht (fun e => e)) (by omega) hn)
  have c1 : w.cell? ⟨tb, 1, none⟩ = some (.map (some ob)) := block_cell h.blk 1
  have xl := block_lt h.blk
  have l1 : (Builtin.len_ #[108] 3 #[.map (some ob)]).run Tryz.prog (w.alloc (.cells #[.func (.func 83) #[] #[.pointer (some ⟨tc, 0, none⟩)]] 140)) = .ok (.int .i64 C.all.length) (w.alloc (.cells #[.func (.func 83) #[] #[.pointer (some ⟨tc, 0, none⟩)]] 140)) := by
    rw [h1.map.len_all Tryz.underlying108 3 _ rfl, avals_len]
  clear h h1 hg ht hn hw hob
  go_enter Tryz.func82, Tryz.ntmps82
  go_wp2_with fail
  refine HDEL.out.mono ?_
  rintro e w3 ⟨rfl, ⟨L2, hm, hp⟩, hk⟩
  have h3 : OffAt w3 tb ob ⟨C.room, L2⟩ := ⟨H1.out.ne, (hk.block tb (block_lt H1.out.blk) H1.out.ne).trans H1.out.blk, hm⟩
  have H3 := Lib.hid h3
  have c3 : w3.cell? ⟨tb, 1, none⟩ = some (.map (some ob)) := block_cell h3.blk 1
  have x3 := block_lt h3.blk
  have l3 : (Builtin.len_ #[108] 3 #[.map (some ob)]).run Tryz.prog w3 = .ok (.int .i64 L2.length) w3 := by
    rw [hm.len_all Tryz.underlying108 3 _ rfl, avals_len]
  have hcnt : (C.all.filter fun p => decide (p.1.topic = t)).length + (C.all.filter fun p => !decide (p.1.topic = t)).length = C.all.length := drop_count C.all t
  have hdn : dropN C t = (C.all.filter fun p => decide (p.1.topic = t)).length := rfl
  have hpl : L2.length = (C.all.filter fun p => !decide (p.1.topic = t)).length := hp.length_eq
  have HR : Hid ((C.all.length : Int) - L2.length = dropN C t) := by
    show _ = _
    omega
  have l0 : L2.length ≤ C.all.length := by omega
  have HK := Lib.hid ((HA.out.mono (S1 := fun k => k = ob) (fun _ _ e => e.elim)).trans hk (fun _ _ e => e) : Keeps (fun k => k = ob) w w3)
  have HPP := Lib.hid hp
  clear h3 hm hk hp hcnt hpl hdn l1
  go_wp2
  go_ret
  exact ⟨by rw [← HR.out]; rfl, ⟨L2, H3.out, HPP.out⟩, HK.out⟩
set_option maxRecDepth 100000 in
set_option maxHeartbeats 4000000 in
theorem offdrop_any {w : World} {tb ob : Nat} {C : OffC} (t : ByteArray) (h : OffAt w tb ob C) (hw : ∀ p ∈ C.all, OkP p) (hl : C.all.length ≤ 100000) :
    Calls Tryz.prog 50 #[.pointer (some ⟨tb, 0, none⟩), .string t] w (OffDropP w tb ob C t) := by
  have HA : Hid (K0 w (w.alloc (.cells #[.string t] 9))) := (Keeps.refl _ _).alloc _
  have hob : ob < w.heap.size := h.map.lt
  have HT := Lib.hid (offtake_any (tc := w.heap.size) t (h.keep HA.out (fun e => e) (fun e => e)) hw hl (block_cell (heap_new _ _ _ rfl) 0) (by omega))
  clear h hw hob
  go_enter Tryz.func50, Tryz.ntmps50
  go_wp2_with fail
  refine HT.out.mono ?_
  rintro e w1 ⟨rfl, hL, hk⟩
  have HK := Lib.hid ((HA.out.mono (S1 := fun k => k = ob) (fun _ _ e => e.elim)).trans hk (fun _ _ e => e) : Keeps (fun k => k = ob) w w1)
  have HL := Lib.hid hL
  clear hk hL
  go_wp2
  go_ret
  exact ⟨rfl, HL.out, HK.out⟩
end Go.Proofs.YtklhlffdpojkoaaGreat

/-
  Both tables of offsets, in plain Lean: Sim kept by Commit and Drop.
-/
namespace Go.Proofs.YtklhlffdpojkoaaGreat
open Go.RowKit Fx

/-- The program's offsets C, the document's R: the same look-ups. -/
structure SimO (C R : OffC) : Prop where
  room : C.room = 1000
  rm : R.room = 1000
  kc : KD C.all
  kr : KD R.all
  look : ∀ u, aget C.all u = aget R.all u
  len : C.all.length = R.all.length
  ok : ∀ p ∈ C.all, OkP p
  small : C.all.length ≤ 1000
theorem SimO.perm {C R : OffC} (h : SimO C R) : C.all.Perm R.all := y_perm_same h.kc h.kr h.look
theorem SimO.getV {C R : OffC} (h : SimO C R) (k : OffK) : getV C k = getV R k := by unfold Go.Proofs.YtklhlffdpojkoaaGreat.getV; rw [h.look]
theorem SimO.commitE {C R : OffC} (h : SimO C R) (k : OffK) (at_ : Int) : commitE C k at_ = commitE R k at_ := by unfold Go.Proofs.YtklhlffdpojkoaaGreat.commitE; rw [h.look, h.len, h.room, h.rm]
theorem SimO.dropN {C R : OffC} (h : SimO C R) (t : ByteArray) : dropN C t = dropN R t := (h.perm.filter _).length_eq
theorem SimO.drop {C R : OffC} (h : SimO C R) (t : ByteArray) {L2 : List RowP} (hp : L2.Perm (dropO C t).all) : SimO ⟨C.room, L2⟩ (dropO R t) := by
  have hkd : ∀ {l : List RowP}, KD l → KD (l.filter fun p => !decide (p.1.topic = t)) := fun hl => by
    unfold KD at hl ⊢
    exact List.Nodup.sublist (List.Sublist.map (fun p : RowP => p.1) List.filter_sublist) hl
  have h1 : KD (dropO C t).all := hkd h.kc
  have h2 : KD (dropO R t).all := hkd h.kr
  have hpp : (dropO C t).all.Perm (dropO R t).all := h.perm.filter _
  have hle : (dropO C t).all.length ≤ C.all.length := List.length_filter_le _ _
  refine ⟨h.room, h.rm, kd_perm h1 hp.symm, h2, fun u => ?_, (hp.trans hpp).length_eq, fun p hm => h.ok p (List.mem_filter.1 (hp.mem_iff.1 hm)).1, ?_⟩
  · exact aget_permK h2 (hp.trans hpp).symm u
  · have := hp.length_eq
    have := h.small
    show L2.length ≤ 1000
    omega
theorem aput_length (L : List RowP) (k : OffK) (v : Int) : (aput L k v).length = L.length + (if (aget L k).isSome = true then 0 else 1) := by
  induction L with
  | nil => rfl
  | cons p L ih =>
    obtain ⟨q, x⟩ := p
    by_cases h : q = k
    · simp [aput, aget, h]
    · simp only [aput, aget, if_neg h, List.length_cons, ih]
      omega
theorem mem_aput {L : List RowP} {k : OffK} {v : Int} {p : RowP} (h : p ∈ aput L k v) : p = (k, v) ∨ p ∈ L := by
  induction L with
  | nil => exact .inl (by simpa [aput] using h)
  | cons q L ih =>
    obtain ⟨q, x⟩ := q
    by_cases e : q = k
    · simp only [aput, if_pos e, List.mem_cons] at h
      exact h.imp (fun h => by rw [h, e]) (fun h => List.mem_cons_of_mem _ h)
    · simp only [aput, if_neg e, List.mem_cons] at h
      rcases h with h | h
      · exact .inr (by rw [h]; exact List.mem_cons_self ..)
      · exact (ih h).imp id (fun h => List.mem_cons_of_mem _ h)
theorem okP_of {k : OffK} {at_ : Int} (h1 : mayB k = true) (h2 : inB at_ 0 = true) : OkP (k, at_) := by
  unfold mayB nameB at h1
  unfold inB at h2
  simp only [Bool.and_eq_true, decide_eq_true_eq] at h1 h2
  obtain ⟨⟨⟨_, g2⟩, _, t2⟩, i1, i2⟩ := h1
  exact ⟨g2, t2, i1, by show k.index ≤ 15; omega, h2.1, h2.2⟩
theorem SimO.commit {C R R' : OffC} (h : SimO C R) (k : OffK) (at_ : Int) (h1 : R'.room = R.room) (h2 : KD R'.all) (h3 : ∀ u, aget R'.all u = aget (commitC R k at_).all u) (h4 : R'.all.length = (commitC R k at_).all.length) : SimO (commitC C k at_) R' := by
  have he := h.commitE k at_
  by_cases h0 : Go.Proofs.YtklhlffdpojkoaaGreat.commitE C k at_ = 0
  · have e1 : commitC C k at_ = ⟨C.room, aput C.all k at_⟩ := by unfold commitC; rw [if_pos h0]
    have e2 : commitC R k at_ = ⟨R.room, aput R.all k at_⟩ := by unfold commitC; rw [if_pos (he ▸ h0)]
    rw [e2] at h3 h4
    rw [e1]
    have hmay : mayB k = true ∧ inB at_ 0 = true ∧ ¬ ((aget C.all k).isSome = false ∧ C.room ≤ C.all.length) := by
      unfold Go.Proofs.YtklhlffdpojkoaaGreat.commitE at h0
      split at h0
      case isTrue hh =>
        split at h0
        case isTrue => cases h0
        case isFalse h9 => exact ⟨hh.1, hh.2, h9⟩
      case isFalse => cases h0
    refine ⟨h.room, h1.trans h.rm, h.kc.put k at_, h2, fun u => ?_, ?_, fun p hp => ?_, ?_⟩
    · rw [h3]
      show aget (aput C.all k at_) u = aget (aput R.all k at_) u
      rw [aget_aput, aget_aput, h.look]
    · rw [h4]
      show (aput C.all k at_).length = (aput R.all k at_).length
      rw [aput_length, aput_length, h.look, h.len]
    · rcases mem_aput hp with rfl | hp
      · exact okP_of hmay.1 hmay.2.1
      · exact h.ok p hp
    · show (aput C.all k at_).length ≤ 1000
      rw [aput_length]
      have hs := h.small
      have hr := h.room
      cases hg : (aget C.all k).isSome with
      | true => simp; omega
      | false =>
        have : ¬ C.room ≤ C.all.length := fun e => hmay.2.2 ⟨hg, e⟩
        simp
        omega
  · have e1 : commitC C k at_ = C := by unfold commitC; rw [if_neg h0]
    have e2 : commitC R k at_ = R := by unfold commitC; rw [if_neg (he ▸ h0)]
    rw [e2] at h3 h4
    rw [e1]
    exact ⟨h.room, h1.trans h.rm, h.kc, h2, fun u => by rw [h3, h.look], by rw [h4, h.len], h.ok, h.small⟩
end Go.Proofs.YtklhlffdpojkoaaGreat

/-
  The library's searches over the members' row, with the closures that the program hands in.
-/
namespace Go.Proofs.YtklhlffdpojkoaaGreat
open Go.RowKit Go.Shelf Fx

/-- The row of members, for reading. -/
def RowV (w : World) (v : Value) (L : List OneV) : Prop :=
  L.length ≤ 1000000 ∧ ((L = [] ∧ v = .slice none 0 0) ∨ ∃ r cap, v = .slice (some ⟨r, 0, none⟩) L.length cap ∧ r < w.heap.size ∧ ∀ i (hi : i < L.length),
    w.cell? ⟨r, i * 5, none⟩ = some (.int .i64 L[i].member) ∧ w.cell? ⟨r, i * 5 + 1, none⟩ = some L[i].tv ∧ w.cell? ⟨r, i * 5 + 2, none⟩ = some (.int .i64 L[i].til) ∧ w.cell? ⟨r, i * 5 + 3, none⟩ = some (.bool L[i].joined) ∧ w.cell? ⟨r, i * 5 + 4, none⟩ = some L[i].pv)
theorem RowV.keep {w w' : World} {S : Nat → Prop} {v : Value} {L : List OneV} (h : RowV w v L) (hk : Keeps S w w') (hS : ∀ k, v.ownBlock = some k → ¬ S k) : RowV w' v L := by
  obtain ⟨h0, h⟩ := h
  refine ⟨h0, h.elim .inl fun ⟨r, cap, e, hr, hc⟩ => .inr ⟨r, cap, e, Nat.lt_of_lt_of_le hr hk.size, fun i hi => ?_⟩⟩
  have hn : ¬ S r := hS r (by rw [e]; rfl)
  obtain ⟨c0, c1, c2, c3, c4⟩ := hc i hi
  exact ⟨hk.cell' c0 hn, hk.cell' c1 hn, hk.cell' c2 hn, hk.cell' c3 hn, hk.cell' c4 hn⟩
theorem GrpAt.rowV {w : World} {F : Nat → Prop} {b : Nat} {g : GroupC} {v : Value} {L : List OneV} (h : GrpAt w F b g v L) (hl : L.length ≤ 1000000) : RowV w v L := by
  refine ⟨hl, ?_⟩
  rcases h.form with h1 | ⟨r, cap, e, _, hr, _, _⟩
  · exact .inl h1
  · exact .inr ⟨r, cap, e, hr, fun i hi => h.cell e i hi⟩
/-- A closure that tells of a member whether something holds of it. -/
def Tests (c : Nat) (caps : Array Value) (p : OneV → Bool) (w : World) : Prop :=
  ∀ x : OneV, Calls Tryz.prog c (#[.agg #[.int .i64 x.member, x.tv, .int .i64 x.til, .bool x.joined, x.pv]] ++ caps) w fun e w' => Same w e (.bool (p x)) w'
theorem enters_complete : ∀ args w, (callFunc 104 args).run Tryz.prog w = .ok (.enter 104 args) w :=
  enters_of Tryz.func104 (by kernel_rfl) rfl
theorem enters_close : ∀ args w, (callFunc 106 args).run Tryz.prog w = .ok (.enter 106 args) w :=
  enters_of Tryz.func106 (by kernel_rfl) rfl
theorem enters_leave : ∀ args w, (callFunc 79 args).run Tryz.prog w = .ok (.enter 79 args) w :=
  enters_of Tryz.func79 (by kernel_rfl) rfl
set_option maxHeartbeats 400000 in
theorem tests_complete (w : World) : Tests 104 #[] (fun x => !x.joined) w := by
  intro x
  obtain ⟨a, t, u, j, p, _, _⟩ := x
  cases j <;>
  · go_enter Tryz.func104, Tryz.ntmps104
    go_wp2
    go_ret
    exact ⟨rfl, (Keeps.refl _ _).alloc _⟩
set_option maxHeartbeats 400000 in
theorem tests_close (w : World) : Tests 106 #[] (fun x => !x.joined) w := by
  intro x
  obtain ⟨a, t, u, j, p, _, _⟩ := x
  cases j <;>
  · go_enter Tryz.func106, Tryz.ntmps106
    go_wp2
    go_ret
    exact ⟨rfl, (Keeps.refl _ _).alloc _⟩
set_option maxHeartbeats 400000 in
theorem tests_leave {w : World} {bm : Nat} {m : Int} (hc : w.cell? ⟨bm, 0, none⟩ = some (.int .i64 m)) : Tests 79 #[.pointer (some ⟨bm, 0, none⟩)] (fun x => x.member == m) w := by
  intro x
  have hb := cell_block1 hc
  obtain ⟨a, t, u, j, p, _, _⟩ := x
  go_enter Tryz.func79, Tryz.ntmps79
  go_wp2
  go_ret
  exact ⟨rfl, (Keeps.refl _ _).alloc _⟩
/-- Where the first one is that something holds of; -1: nowhere. -/
def idxOf (p : OneV → Bool) (L : List OneV) : Int := match L.findIdx? p with
  | some i => i
  | none => -1
theorem idx_here {p : OneV → Bool} {L : List OneV} {k : Nat} (hk : k < L.length) (h1 : ∀ j (h : j < L.length), j < k → p L[j] = false) (h2 : p L[k] = true) : idxOf p L = k := by
  unfold idxOf
  have : L.findIdx? p = some k := by
    rw [List.findIdx?_eq_some_iff_getElem]
    exact ⟨hk, h2, fun j hj => by rw [h1 j (by omega) hj]; simp⟩
  rw [this]
theorem idx_none {p : OneV → Bool} {L : List OneV} (h1 : ∀ j (h : j < L.length), p L[j] = false) : idxOf p L = -1 := by
  unfold idxOf
  have : L.findIdx? p = none := by
    rw [List.findIdx?_eq_none_iff]
    intro x hx
    obtain ⟨j, hj, rfl⟩ := List.mem_iff_getElem.1 hx
    exact h1 j hj
  rw [this]

set_option maxRecDepth 100000 in
set_option maxHeartbeats 1000000 in
theorem indexFunc (w : World) (v : Value) (L : List OneV) (c : Nat) (caps : Array Value) (p : OneV → Bool) (hv : RowV w v L) (eg : ∀ args w, (callFunc c args).run Tryz.prog w = .ok (.enter c args) w) (hp : ∀ w1, K0 w w1 → Tests c caps p w1) :
    Calls Tryz.prog 120 #[v, .func (.func c) #[] caps] w fun e w' => Same w e (.int .i64 (idxOf p L)) w' := by
  have HP := Lib.hid hp
  have HV := Lib.hid hv
  have hl := hv.1
  obtain ⟨cap0, a0, rfl⟩ : ∃ cap a, v = .slice a L.length cap := by
    rcases hv.2 with ⟨rfl, rfl⟩ | ⟨r, cap, rfl, _⟩
    · exact ⟨_, _, rfl⟩
    · exact ⟨_, _, rfl⟩
  clear hv hp
  go_enter Tryz.func120, Tryz.ntmps120
  go_wp2
  go_loopw [8] (fun i wr => ∃ k : Nat, i = .int .i64 k ∧ k ≤ L.length ∧ (∀ j (h : j < L.length), j < k → p L[j] = false) ∧ K0 w wr) (fun i _ => L.length - (intOf i).toNat)
  case atStart => exact ⟨0, rfl, by omega, fun j _ h => by omega, Keeps.refl _ _⟩
  case round =>
    obtain ⟨k, rfl, hk, hq, hkw⟩ := hrel
    have HQ := Lib.hid hq
    have HK := Lib.hid hkw
    clear hq
    by_cases hlt : k < L.length
    · rcases HV.out.2 with ⟨h0, _⟩ | ⟨r, cap, e, hr, hc⟩
      · subst h0; exact absurd hlt (Nat.not_lt_zero _)
      · simp only [Value.slice.injEq, true_and] at e
        obtain ⟨rfl, rfl⟩ := e
        obtain ⟨c0, c1, c2, c3, c4⟩ := hc k hlt
        have c0 := hkw.cell' c0 (fun e => e)
        have c1 := hkw.cell' c1 (fun e => e)
        have c2 := hkw.cell' c2 (fun e => e)
        have c3 := hkw.cell' c3 (fun e => e)
        have c4 := hkw.cell' c4 (fun e => e)
        have hr := Nat.lt_of_lt_of_le hr hkw.size
        have HT := Lib.hid (HP.out wr hkw L[k])
        clear hc hkw
        have i0 : (0 : Int) ≤ k := by omega
        have i1 : (k : Int) < L.length := by omega
        cases hpk : p L[k] with
        | true =>
          have HR := Lib.hid (idx_here hlt HQ.out hpk)
          rw [hpk] at HT
          clear hpk
          generalize L[k].member = x0 at c0 HT
          generalize L[k].tv = x1 at c1 HT
          generalize L[k].til = x2 at c2 HT
          generalize L[k].joined = x3 at c3 HT
          generalize L[k].pv = x4 at c4 HT
          go_wp2_with fail
          refine HT.out.mono ?_
          rintro e w' ⟨rfl, hk'⟩
          go_wp2
          go_ret
          rw [HR.out]
          exact ⟨rfl, K0.tr HK.out hk'⟩
        | false =>
          have HR := Lib.hid hpk
          rw [hpk] at HT
          clear hpk
          generalize L[k].member = x0 at c0 HT
          generalize L[k].tv = x1 at c1 HT
          generalize L[k].til = x2 at c2 HT
          generalize L[k].joined = x3 at c3 HT
          generalize L[k].pv = x4 at c4 HT
          go_wp2_with fail
          refine HT.out.mono ?_
          rintro e w' ⟨rfl, hk'⟩
          go_wp2
          go_roundw
          case rel => exact ⟨k + 1, by go_num, by omega, fun j h hj => (Nat.lt_succ_iff_lt_or_eq.1 hj).elim (HQ.out j h) (fun e => by subst e; exact HR.out), K0.tr HK.out hk'⟩
          case measure => simp [intOf]; omega
    · obtain rfl : k = L.length := by omega
      clear hkw
      go_wp2
      go_ret
      rw [idx_none (fun j h => HQ.out j h h)]
      exact ⟨rfl, HK.out⟩
end Go.Proofs.YtklhlffdpojkoaaGreat

/-
  A slice's copy (slices.Clone) of texts, of partitions, of members.
-/
namespace Go.Proofs.YtklhlffdpojkoaaGreat
open Go.RowKit Fx

theorem add_at (b off j : Nat) : (⟨b, off, none⟩ : Addr).add j = ⟨b, off + j, none⟩ := by unfold Addr.add; split <;> simp_all
/-- The cells of a list. -/
def CellsR {α : Type} (n : Nat) (R : Rdr α) (w : World) (l : List α) (news : List Value) : Prop :=
  news.length = l.length * n ∧ ∀ i (h : i < l.length), ∃ cs : List Value, cs.length = n ∧ (∀ j, j < n → news[i * n + j]? = cs[j]?) ∧ R w cs l[i]
/-- What reads has plain cells. -/
def Plain {α : Type} (R : Rdr α) : Prop := ∀ (w : World) (cs : List Value) (x : α), R w cs x → ∀ u ∈ cs, u.oneCell' = true
theorem plain_str : Plain rStr := by
  rintro w cs s ⟨rfl, _⟩ u hu
  simp at hu; subst hu; rfl
theorem plain_part : Plain rPart := by
  rintro w cs p rfl u hu
  simp at hu
  rcases hu with rfl | rfl <;> rfl
theorem cells_ofR {α : Type} {n : Nat} (hn : 0 < n) {R : Rdr α} (hone : Plain R) {w : World} {b off : Nat} {l : List α} (h : RowAt n R w b off l) :
    ∃ news, CellsR n R w l news ∧ (∀ j u, news[j]? = some u → w.cell? ((⟨b, off, none⟩ : Addr).add j) = some u) ∧ ∀ u ∈ news, u.oneCell' = true := by
  have hc : ∀ j, j < l.length * n → ∃ u, w.cell? ⟨b, off + j, none⟩ = some u ∧ u.oneCell' = true := by
    intro j hj
    have hd : j / n < l.length := by rw [Nat.div_lt_iff_lt_mul hn]; exact hj
    have hm : j % n < n := Nat.mod_lt _ hn
    obtain ⟨cs, h1, h2, h3⟩ := h (j / n) hd
    have h4 := h2 (j % n) hm
    have h5 := Nat.div_add_mod j n
    rw [Nat.mul_comm] at h5
    rw [show off + j / n * n + j % n = off + j by omega, List.getElem?_eq_getElem (by omega)] at h4
    exact ⟨_, h4, hone _ _ _ h3 _ (List.getElem_mem _)⟩
  have hg : ∀ j, j < l.length * n → ((List.range (l.length * n)).map fun j => (w.cell? ⟨b, off + j, none⟩).getD .nilIface)[j]? = w.cell? ⟨b, off + j, none⟩ := by
    intro j hj
    obtain ⟨u, hu, _⟩ := hc j hj
    rw [List.getElem?_map, List.getElem?_range hj]
    simp [hu]
  refine ⟨(List.range (l.length * n)).map fun j => (w.cell? ⟨b, off + j, none⟩).getD .nilIface, ⟨by simp, fun i hi => ?_⟩, fun j u hu => ?_, fun u hu => ?_⟩
  · obtain ⟨cs, h1, h2, h3⟩ := h i hi
    refine ⟨cs, h1, fun j hj => ?_, h3⟩
    have : (i + 1) * n ≤ l.length * n := Nat.mul_le_mul_right _ hi
    rw [Nat.add_mul] at this
    rw [hg _ (by omega), ← h2 j hj, Nat.add_assoc]
  · have hj : j < l.length * n := by
      have := (List.getElem?_eq_some_iff.1 hu).1
      simpa using this
    rw [hg j hj] at hu
    rw [add_at]
    exact hu
  · obtain ⟨j, hj, rfl⟩ := List.mem_iff_getElem.1 hu
    have hj' : j < l.length * n := by simpa using hj
    obtain ⟨u, hu, h1⟩ := hc j hj'
    have h5 := hg j hj'
    rw [List.getElem?_eq_getElem hj, hu] at h5
    rw [Option.some.inj h5]
    exact h1
theorem own_cells {α : Type} {n : Nat} {R : Rdr α} (hR : Still R) {w w' : World} {base : Nat} {e : TypeId} {v : Value} {l : List α} {news : List Value} (h : w'.ownsRow base e n v l.length news) (hc : CellsR n R w l news) :
    Out n R w' (fun k => base ≤ k) v l := by
  rcases h.2 with ⟨rfl, h0⟩ | ⟨g, cap, cur, rfl, hb, hg, hcp, hm, hs, ht⟩
  · have : l = [] := List.eq_nil_of_length_eq_zero h0
    subst this
    exact Out.nil _ _ _ _
  · refine ⟨_, cap, rfl, ⟨hcp, hm, fun _ => ⟨g, 0, rfl, fun i hi => ?_⟩⟩, fun x e _ => by cases e; exact ⟨block_lt hg, hb⟩⟩
    obtain ⟨cs, e1, e2, e3⟩ := hc.2 i hi
    refine ⟨cs, e1, fun j hj => ?_, hR _ _ _ _ e3⟩
    have : (i + 1) * n ≤ l.length * n := Nat.mul_le_mul_right _ hi
    rw [Nat.add_mul] at this
    rw [Nat.zero_add, h.cellAt (i * n + j) (by omega), e2 j hj]
/-- An append of a row that lies somewhere, onto a row that the call owns. -/
theorem wpList_appN {P : Program} {w : World} {ops : Array Oper} {rest : List Oper} {o : Oper} {a : Act} {Q : Exit → Act → World → Prop} (hgd : o.guard = none) {s x : Operand} {t : TypeId}
    (ho : o.op = .call { callee := .builtin .append, args := #[s, x], argTypes := #[t, t] })
    {base : Nat} {e : TypeId} {z : Value} {size bytes : Nat} (ht : P.underlying t = some (.slice e)) (hinfo : (P.info? e).map (fun i => (i.zero, i.size, i.bytes)) = some (some z, size, bytes)) (hzs : z.cells.size = size) (hsz : 0 < size)
    {v : Value} {n : Nat} {xs : List Value} (hs : a.eval s = v) (hown : w.ownsRow base e size v n xs) {ad : Addr} {m c : Nat} {news : List Value} (hx : a.eval x = .slice (some ad) m c) (hl : news.length = m * size)
    (hnews : ∀ j u, news[j]? = some u → w.cell? (ad.add j) = some u) (h1 : ∀ u ∈ news, u.oneCell' = true) (hn : n + m ≤ 1000000 ∧ bytes ≤ 1000000) (hbase : base ≤ w.heap.size)
    (h : ∀ v' w', w'.ownsRow base e size v' (n + m) (xs ++ news) → w.grownBy w' v.ownBlock → wpList P ops Q rest (a.put o.dst v') w') : wpList P ops Q (o :: rest) a w := by
  obtain ⟨i, hi, hz, hz1, hz2⟩ := info_parts hinfo
  refine wpList_append_own w hgd s x t ho base e i z size bytes ht hi hz hz1 hz2 hzs hsz v n xs hs hown ad m c news hx hl hnews h1 (by unfold maxLen; omega) ?_ hbase fun v' w' h2 h3 _ => h v' w' h2 h3
  have : (n + m) * bytes ≤ 1000000 * 1000000 := Nat.mul_le_mul hn.1 hn.2
  omega
theorem infoStr : (Tryz.prog.info? 9).map (fun i => (i.zero, i.size, i.bytes)) = some (some (.string ⟨#[]⟩), 1, 16) := by kernel_rfl
theorem infoOne : (Tryz.prog.info? 94).map (fun i => (i.zero, i.size, i.bytes)) = some (some (.agg #[.int .i64 0, .slice none 0 0, .int .i64 0, .bool false, .slice none 0 0]), 5, 72) := by kernel_rfl
/-- What a copy leaves. -/
def ClonePost {α : Type} (n : Nat) (R : Rdr α) (w : World) (l : List α) (e : Ending) (w' : World) : Prop := ∃ v, e = .returned v ∧ Out n R w' (fun k => w.heap.size ≤ k) v l ∧ K0 w w'
theorem grown_kept {w w1 w2 : World} {g : Nat} (hk : K0 w w1) (hg : w1.grownBy w2 (some g)) (hl : w.heap.size ≤ g) : K0 w w2 := hk.grown hg (fun k e hk' => by cases e; omega)
set_option maxRecDepth 100000 in
set_option maxHeartbeats 1000000 in
theorem clone_str (w : World) (G : Nat → Prop) (v : Value) (l : List ByteArray) (h : Out 1 rStr w G v l) (hl : l.length ≤ 1000) :
    Calls Tryz.prog 66 #[v] w (ClonePost 1 rStr w l) := by
  obtain ⟨a, cap, rfl, hs, _⟩ := h
  have HS := Lib.hid hs
  clear hs
  cases a with
  | none =>
    have hne : l = [] := by
      have h5 := HS.out.2.2
      exact Classical.byContradiction fun h => by obtain ⟨_, _, e, _⟩ := h5 h; cases e
    subst hne
    have q1 : ∀ w : World, (binOp .eql 31 (.slice none 0 cap) (.slice none 0 0)).run Tryz.prog w = .ok (.bool true) w := fun w => Lib.run_eql_slice_nil w 31 9 none 0 cap 0 0 Tryz.underlying31
    go_enter Tryz.func66, Tryz.ntmps66
    go_wp2
    go_ret
    exact ⟨_, rfl, Out.nil _ _ _ _, Keeps.refl _ _⟩
  | some ad =>
    have hnews : ∃ news, CellsR 1 rStr w l news ∧ (∀ j u, news[j]? = some u → w.cell? (ad.add j) = some u) ∧ ∀ u ∈ news, u.oneCell' = true := by
      by_cases h0 : l = []
      · subst h0
        exact ⟨[], ⟨rfl, fun i hi => absurd hi (Nat.not_lt_zero _)⟩, fun j u hu => by simp at hu, fun u hu => by simp at hu⟩
      · obtain ⟨b, off, e, hr⟩ := HS.out.2.2 h0
        cases e
        exact cells_ofR (by omega) plain_str hr
    obtain ⟨news, hn1, hn2, hn3⟩ := hnews
    have HN := Lib.hid hn1
    have hn4 := hn1.1
    have hn5 : ∀ j u, news[j]? = some u → (w.alloc (.cells #[] 9)).cell? (ad.add j) = some u := fun j u hu => ((Keeps.refl (fun _ => False) w).alloc _).cell' (hn2 j u hu) (fun e => e)
    have hown : (w.alloc (.cells #[] 9)).ownsRow w.heap.size 9 1 (.slice (some ⟨w.heap.size, 0, none⟩) 0 0) 0 [] := World.ownsRow_made w #[] 0 (Nat.le_refl _) (by unfold maxLen; omega) rfl
    have q1 : ∀ w : World, (binOp .eql 31 (.slice (some ad) l.length cap) (.slice none 0 0)).run Tryz.prog w = .ok (.bool false) w := fun w => Lib.run_eql_slice_nil w 31 9 (some ad) l.length cap 0 0 Tryz.underlying31
    clear hn1
    go_enter Tryz.func66, Tryz.ntmps66
    go_wp2_with (at_builtin; refine wpList_appN rfl rfl Tryz.underlying31 infoStr rfl (by decide) rfl hown rfl hn4 hn5 hn3 ⟨by omega, by decide⟩ (by simp) ?_; intro v1 w3 hv1 hv2)
    go_ret
    simp only [Nat.zero_add, List.nil_append] at hv1
    exact ⟨_, rfl, own_cells still_str hv1 HN.out, grown_kept ((Keeps.refl _ _).alloc _) hv2 (Nat.le_refl _)⟩
set_option maxRecDepth 100000 in
set_option maxHeartbeats 1000000 in
theorem clone_part (w : World) (G : Nat → Prop) (v : Value) (l : List PartC) (h : Out 2 rPart w G v l) (hl : l.length ≤ 100000) :
    Calls Tryz.prog 70 #[v] w (ClonePost 2 rPart w l) := by
  obtain ⟨a, cap, rfl, hs, _⟩ := h
  have HS := Lib.hid hs
  clear hs
  cases a with
  | none =>
    have hne : l = [] := by
      have h5 := HS.out.2.2
      exact Classical.byContradiction fun h => by obtain ⟨_, _, e, _⟩ := h5 h; cases e
    subst hne
    have q1 : ∀ w : World, (binOp .eql 44 (.slice none 0 cap) (.slice none 0 0)).run Tryz.prog w = .ok (.bool true) w := fun w => Lib.run_eql_slice_nil w 44 34 none 0 cap 0 0 Tryz.underlying44
    go_enter Tryz.func70, Tryz.ntmps70
    go_wp2
    go_ret
    exact ⟨_, rfl, Out.nil _ _ _ _, Keeps.refl _ _⟩
  | some ad =>
    have hnews : ∃ news, CellsR 2 rPart w l news ∧ (∀ j u, news[j]? = some u → w.cell? (ad.add j) = some u) ∧ ∀ u ∈ news, u.oneCell' = true := by
      by_cases h0 : l = []
      · subst h0
        exact ⟨[], ⟨rfl, fun i hi => absurd hi (Nat.not_lt_zero _)⟩, fun j u hu => by simp at hu, fun u hu => by simp at hu⟩
      · obtain ⟨b, off, e, hr⟩ := HS.out.2.2 h0
        cases e
        exact cells_ofR (by omega) plain_part hr
    obtain ⟨news, hn1, hn2, hn3⟩ := hnews
    have HN := Lib.hid hn1
    have hn4 := hn1.1
    have hn5 : ∀ j u, news[j]? = some u → (w.alloc (.cells #[] 34)).cell? (ad.add j) = some u := fun j u hu => ((Keeps.refl (fun _ => False) w).alloc _).cell' (hn2 j u hu) (fun e => e)
    have hown : (w.alloc (.cells #[] 34)).ownsRow w.heap.size 34 2 (.slice (some ⟨w.heap.size, 0, none⟩) 0 0) 0 [] := World.ownsRow_made w #[] 0 (Nat.le_refl _) (by unfold maxLen; omega) rfl
    have q1 : ∀ w : World, (binOp .eql 44 (.slice (some ad) l.length cap) (.slice none 0 0)).run Tryz.prog w = .ok (.bool false) w := fun w => Lib.run_eql_slice_nil w 44 34 (some ad) l.length cap 0 0 Tryz.underlying44
    clear hn1
    go_enter Tryz.func70, Tryz.ntmps70
    go_wp2_with (at_builtin; refine wpList_appN rfl rfl Tryz.underlying44 info41 rfl (by decide) rfl hown rfl hn4 hn5 hn3 ⟨by omega, by decide⟩ (by simp) ?_; intro v1 w3 hv1 hv2)
    go_ret
    simp only [Nat.zero_add, List.nil_append] at hv1
    exact ⟨_, rfl, own_cells still_part hv1 HN.out, grown_kept ((Keeps.refl _ _).alloc _) hv2 (Nat.le_refl _)⟩
/-- The members' row, copied: a row of its own with the same values. -/
def CloneOnes (w : World) (L : List OneV) (e : Ending) (w' : World) : Prop := ∃ v, e = .returned v ∧ w'.ownsRow w.heap.size 94 5 v L.length (L.flatMap oneEnc) ∧ K0 w w'
set_option maxRecDepth 100000 in
set_option maxHeartbeats 1000000 in
theorem clone_ones (w : World) (v : Value) (L : List OneV) (h : w.ownsRow 0 94 5 v L.length (L.flatMap oneEnc)) (hp : ∀ x ∈ L, x.tv.oneCell' = true ∧ x.pv.oneCell' = true) (hl : L.length ≤ 1000) :
    Calls Tryz.prog 69 #[v] w (CloneOnes w L) := by
  have HH := Lib.hid h
  rcases h.2 with ⟨rfl, h0⟩ | ⟨g, cap, cur, rfl, hb, hg, hcp, hm, hs, ht⟩
  · have : L = [] := List.eq_nil_of_length_eq_zero h0
    subst this
    clear h
    have q1 : ∀ w : World, (binOp .eql 55 (.slice none 0 0) (.slice none 0 0)).run Tryz.prog w = .ok (.bool true) w := fun w => Lib.run_eql_slice_nil w 55 94 none 0 0 0 0 Tryz.underlying55
    go_enter Tryz.func69, Tryz.ntmps69
    go_wp2
    go_ret
    exact ⟨_, rfl, World.ownsRow_nil _ _ _ _, Keeps.refl _ _⟩
  · have hn4 : (L.flatMap oneEnc).length = L.length * 5 := flat_len _ 5 oneEnc_len L
    have hn5 : ∀ j u, (L.flatMap oneEnc)[j]? = some u → (w.alloc (.cells #[] 94)).cell? ((⟨g, 0, none⟩ : Addr).add j) = some u := fun j u hu => ((Keeps.refl (fun _ => False) w).alloc _).cell' (by
      have hj := (List.getElem?_eq_some_iff.1 hu).1
      rw [add_at, Nat.zero_add, h.cellAt j (by rw [← hn4]; exact hj)]
      exact hu) (fun e => e)
    have hn3 : ∀ u ∈ L.flatMap oneEnc, u.oneCell' = true := by
      intro u hu
      obtain ⟨x, hx, hu⟩ := List.mem_flatMap.1 hu
      have h7 := hp x hx
      simp only [oneEnc, List.mem_cons, List.not_mem_nil, or_false] at hu
      rcases hu with rfl | rfl | rfl | rfl | rfl
      · rfl
      · exact h7.1
      · rfl
      · rfl
      · exact h7.2
    have hown : (w.alloc (.cells #[] 94)).ownsRow w.heap.size 94 5 (.slice (some ⟨w.heap.size, 0, none⟩) 0 0) 0 [] := World.ownsRow_made w #[] 0 (Nat.le_refl _) (by unfold maxLen; omega) rfl
    clear h hg ht hs hm hcp hb hp
    generalize hxs : L.flatMap oneEnc = xs at *
    generalize hnn : L.length = n at *
    have HX := Lib.hid hxs
    have HN := Lib.hid hnn
    clear hxs hnn
    have q1 : ∀ w : World, (binOp .eql 55 (.slice (some ⟨g, 0, none⟩) n cap) (.slice none 0 0)).run Tryz.prog w = .ok (.bool false) w := fun w => Lib.run_eql_slice_nil w 55 94 (some ⟨g, 0, none⟩) n cap 0 0 Tryz.underlying55
    go_enter Tryz.func69, Tryz.ntmps69
    go_wp2_with (at_builtin; refine wpList_appN rfl rfl Tryz.underlying55 infoOne rfl (by decide) rfl hown rfl hn4 hn5 hn3 ⟨by omega, by decide⟩ (by simp) ?_; intro v1 w3 hv1 hv2)
    go_ret
    simp only [Nat.zero_add, List.nil_append] at hv1
    rw [← HX.out, ← HN.out] at hv1
    exact ⟨_, rfl, hv1, grown_kept ((Keeps.refl _ _).alloc _) hv2 (Nat.le_refl _)⟩
end Go.Proofs.YtklhlffdpojkoaaGreat
