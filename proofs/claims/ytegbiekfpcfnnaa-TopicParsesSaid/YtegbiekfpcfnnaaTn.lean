/-
  TopicOrder, walked.
-/
import Derived.Test.YtegbiekfpcfnnaaTm
import Derived.Deep.DeepCutAuto
import Derived.Deep.RegionHeld3
namespace Go.Proofs.Ytegbiekfpcfnnaa
open Go.RowKit Fx

theorem toList_ne {a b : ByteArray} (h : ¬ a = b) : (b.toList == a.toList) = false ∧ (a.toList == b.toList) = false := by
  have : ¬ a.toList = b.toList := fun e => h (by
    rw [ByteArray.toList_eq, ByteArray.toList_eq] at e
    cases a; cases b
    simp only [ByteArray.mk.injEq]
    exact Array.toList_inj.1 e)
  exact ⟨by simpa using fun e => this e.symm, by simpa using this⟩
/-- The first loop: so many have been made in the first table; no name stands twice. -/
structure ORel (w : World) (l : List OpC) (gone : ByteArray) (k : Nat) (nv : Value) (wr : World) : Prop where
  row : wr.ownsRow (w.heap.size + 4) 9 1 nv k ((l.take k).map fun o => .string o.name)
  ta : TblAt wr (w.heap.size + 1) w.heap.size (fillO 0 (l.take k))
  tb : TblAt wr (w.heap.size + 3) (w.heap.size + 2) ⟨0, []⟩
  k0 : K0 w wr
  size : w.heap.size + 4 ≤ wr.heap.size
  nd : ((l.take k).map (·.name)).Nodup
  ng : ∀ o ∈ l.take k, o.name ≠ gone
theorem own_keepT {w w' : World} {S : Nat → Prop} (hk : Keeps S w w') {base : Nat} {e : TypeId} {size : Nat} {v : Value} {n : Nat} {xs : List Value} (h : w.ownsRow base e size v n xs) (hS : ∀ k, base ≤ k → ¬ S k) : w'.ownsRow base e size v n xs := by
  refine ⟨h.1, h.2.elim .inl fun ⟨g, cap, cur, h1, h2, h3⟩ => .inr ⟨g, cap, cur, h1, h2, ?_⟩⟩
  have hlt : g < w.heap.size := (h.lt g (by rw [h1]; rfl)).2
  rw [hk.block g hlt (hS g h2)]
  exact h3
theorem ORel.keep {w : World} {l : List OpC} {gone : ByteArray} {k : Nat} {nv : Value} {wr wx : World} (h : ORel w l gone k nv wr) (hk : K0 wr wx) : ORel w l gone k nv wx :=
  ⟨own_keepT hk h.row (fun _ _ e => e), h.ta.keep hk (fun e => e) (fun e => e), h.tb.keep hk (fun e => e) (fun e => e), K0.tr h.k0 hk, Nat.le_trans h.size hk.size, h.nd, h.ng⟩
/-- One name more in the row. -/
theorem ORel.add {w : World} {l : List OpC} {gone : ByteArray} {k : Nat} {nv nv' : Value} {wr w4 w5 : World} (h : ORel w l gone k nv wr) (hk : k < l.length)
    (hown : w4.ownsRow (w.heap.size + 4) 9 1 nv' (k + 1) (((l.take k).map fun o => .string o.name) ++ [.string l[k].name])) (hg : wr.grownBy w4 nv.ownBlock)
    (hc : TblAt w5 (w.heap.size + 1) w.heap.size (addO (fillO 0 (l.take k)) l[k])) (hkk : Keeps (TblS (w.heap.size + 1) w.heap.size) w4 w5)
    (hn1 : ∀ o ∈ l.take k, o.name ≠ l[k].name) (hn2 : l[k].name ≠ gone) : ORel w l gone (k + 1) nv' w5 := by
  have hk4 : Keeps (fun j => w.heap.size + 4 ≤ j) wr w4 := (Keeps.refl (fun j => w.heap.size + 4 ≤ j) wr).grown hg (fun j e _ => (h.row.lt j e).1)
  have hK4 : K0 w w4 := h.k0.trans hk4 (fun j hj e => by have e : w.heap.size + 4 ≤ j := e; omega)
  refine ⟨?_, ?_, ?_, ?_, ?_, ?_, ?_⟩
  · rw [List.take_succ_eq_append_getElem hk, List.map_append]
    exact own_keepT hkk hown (fun j hj e => by unfold TblS at e; omega)
  · rw [fill_next 0 l hk]
    exact hc
  · exact (h.tb.keep hk4 (fun e => by have e : w.heap.size + 4 ≤ w.heap.size + 3 := e; omega) (fun e => by have e : w.heap.size + 4 ≤ w.heap.size + 2 := e; omega)).keep hkk (fun e => by unfold TblS at e; omega) (fun e => by unfold TblS at e; omega)
  · exact hK4.trans hkk (fun j hj e => by unfold TblS at e; omega)
  · exact Nat.le_trans h.size (Nat.le_trans hk4.size hkk.size)
  · rw [List.take_succ_eq_append_getElem hk, List.map_append, List.nodup_append]
    refine ⟨h.nd, by simp, fun x hx y hy => ?_⟩
    obtain ⟨o, ho, rfl⟩ := List.mem_map.1 hx
    simp only [List.map_cons, List.map_nil, List.mem_singleton] at hy
    subst hy
    exact hn1 o ho
  · intro o ho
    rw [List.take_succ_eq_append_getElem hk] at ho
    rcases List.mem_append.1 ho with ho | ho
    · exact h.ng o ho
    · obtain rfl := List.mem_singleton.1 ho
      exact hn2
def againB (l : List OpC) (gone : ByteArray) (x : ByteArray) (q : Nat) : Bool := (x.toList == gone.toList) || (l.take q).any fun o => o.name.toList == x.toList
theorem againB_next {l : List OpC} {gone x : ByteArray} {q : Nat} (h : q < l.length) : againB l gone x (q + 1) = (againB l gone x q || (l[q].name.toList == x.toList)) := by
  unfold againB
  rw [List.take_succ_eq_append_getElem h, List.any_append]
  simp [Bool.or_assoc]
theorem againB_false {l : List OpC} {gone x : ByteArray} {q : Nat} (h : againB l gone x q = false) : x ≠ gone ∧ ∀ o ∈ l.take q, o.name ≠ x := by
  unfold againB at h
  simp only [Bool.or_eq_false_iff, List.any_eq_false] at h
  refine ⟨fun e => ?_, fun o ho e => ?_⟩
  · rw [e] at h; simp at h
  · have := h.2 o ho
    rw [e] at this
    simp at this
theorem gone_back (gone : ByteArray) : ∃ n1 : Int, 0 ≤ n1 ∧ n1 ≤ 10 ∧ (⟨((⟨0, []⟩ : Tbl).create gone 3).2.2.next, adel ((⟨0, []⟩ : Tbl).create gone 3).2.2.all gone⟩ : Tbl) = ⟨n1, []⟩ ∧ 0 ≤ ((⟨0, []⟩ : Tbl).create gone 3).2.2.next := by
  unfold Tbl.create
  split
  · exact ⟨0, by omega, by omega, by simp [adel], by simp⟩
  · simp only [aget]
    rw [if_neg (by simp)]
    exact ⟨1, by omega, by omega, by simp [aput, adel], by simp⟩
theorem info9 : (Try.prog.info? 9).map (fun i => (i.zero, i.size, i.bytes)) = some (some (.string ⟨#[]⟩), 1, 16) := by kernel_rfl
/-- The second loop: so many have been made in the second table, from the last one on. -/
structure BRel (w : World) (l : List OpC) (n1 : Int) (j : Nat) (wr : World) : Prop where
  ta : TblAt wr (w.heap.size + 1) w.heap.size (fillO 0 l)
  tb : TblAt wr (w.heap.size + 3) (w.heap.size + 2) (fillO n1 (l.reverse.take j))
  k0 : K0 w wr
theorem names_small {n0 : Int} {xs : List OpC} {t : Tbl} (h : Made xs n0 t) : ∀ p ∈ t.all, p.1.size ≤ 100000 := fun p hp => by
  obtain ⟨o, _, e1, _, hv⟩ := (h.has p.1 p.2.2).1 ⟨p.2.1, aget_of_mem h.keys hp⟩
  unfold validO at hv
  rw [← e1]
  omega
set_option maxRecDepth 100000 in
set_option maxHeartbeats 4000000 in
theorem order_any (w : World) (a : Option Addr) (cap : Nat) (l : List OpC) (gone : ByteArray) (hs : SlAt 3 rOp w a cap l) :
    Calls Try.prog 4 #[.slice a l.length cap, .string gone] w fun e w' => Same w e (.bool true) w' := by
  have hm := hs.len
  have HS := Lib.hid hs
  clear hs
  by_cases h20 : 20 < (l.length : Int)
  · go_enter Try.func4, Try.ntmps4
    go_wp2_with fail
    refine (live_any _).mono ?_
    rintro e w2 ⟨rfl, k2⟩
    go_wp2
    go_ret
    exact ⟨rfl, k2⟩
  · have hl20 : l.length ≤ 20 := by omega
    have HL := Lib.hid hl20
    have N1 := Lib.hid (new_calls w)
    go_enter Try.func4, Try.ntmps4
    go_wp2_with fail
    refine N1.out.mono ?_
    rintro e w1 ⟨rfl, ht1, k1, z1⟩
    have N2 : Hid (Calls Try.prog 8 #[] w1 fun e w' => e = .returned (.pointer (some ⟨w.heap.size + 3, 0, none⟩)) ∧ TblAt w' (w.heap.size + 3) (w.heap.size + 2) ⟨0, []⟩ ∧ K0 w1 w' ∧ w'.heap.size = w.heap.size + 4) := by
      show Calls _ _ _ _ _
      refine (new_calls w1).mono fun e w' hq => ?_
      obtain ⟨rfl, q1, q2, q3⟩ := hq
      rw [z1] at q1 q3
      exact ⟨by rw [z1], q1, q2, by omega⟩
    have HT1 := Lib.hid ht1
    have HK1 := Lib.hid k1
    clear ht1 k1 z1
    go_wp2_with fail
    refine N2.out.mono ?_
    rintro e w2 ⟨rfl, ht2, k2, z2⟩
    have H0 : Hid (ORel w l gone 0 (.slice none 0 0) w2) := ⟨World.ownsRow_nil w2 _ _ _, HT1.out.keep k2 (fun e => e) (fun e => e), ht2, K0.tr HK1.out k2, by omega, by simp, by simp⟩
    clear ht2 k2 z2 N1 N2
    go_wp2
    go_loopw [7, 8] (fun nv i wr => ∃ (k : Nat) (na : Option Addr) (nc : Nat), i = .int .i64 k ∧ k ≤ l.length ∧ nv = .slice na k nc ∧ ORel w l gone k (.slice na k nc) wr) (fun _ i _ => l.length - (intOf i).toNat)
    case atStart => exact ⟨0, none, 0, rfl, by omega, rfl, H0.out⟩
    case round =>
      obtain ⟨k, na, nc, rfl, hk, rfl, hr⟩ := hrel
      obtain ⟨wo, rfl⟩ : ∃ wo : World, wo = wr := ⟨_, rfl⟩
      by_cases hlt : k < l.length
      · have HR := Lib.hid hr
        obtain ⟨b, off, rfl, hrow⟩ := HS.out.row hlt
        obtain ⟨x0, x1, x2, hbl⟩ := op_cells hrow hr.k0 (fun _ e => e) k hlt
        have hbw : b < w.heap.size := by
          obtain ⟨cs, h1, h2, h3⟩ := hrow k hlt
          have h4 := h2 0 (by omega)
          rw [h3] at h4
          exact World.block_lt_of_cell? w _ h4
        have hrown := hr.row
        have HX := Lib.hid (rfl : l[k].name = l[k].name)
        have HLT := Lib.hid hlt
        have hcells : ∀ q, q < k → ∃ g, na = some ⟨g, 0, none⟩ ∧ g < wo.heap.size ∧ wo.cell? ⟨g, q, none⟩ = some (.string (l[q]?.getD ⟨0, ⟨#[]⟩, 0⟩).name) := fun q hq => by
          obtain ⟨g, rfl⟩ : ∃ g, na = some ⟨g, 0, none⟩ := by
            rcases hrown.2 with ⟨_, h2⟩ | ⟨r, cp, cur, h1, _⟩
            · omega
            · simp only [Value.slice.injEq] at h1
              exact ⟨r, h1.1⟩
          refine ⟨g, rfl, (hrown.lt g rfl).2, ?_⟩
          rw [hrown.cellAt q (by omega), List.getElem?_map, List.getElem?_take_of_lt hq, List.getElem?_eq_getElem (by omega)]
          rfl
        have HC := Lib.hid hcells
        generalize hx : l[k].name = x at x1
        generalize hpp : l[k].parts = pp at x2
        have HXN := Lib.hid hx
        have HPP := Lib.hid hpp
        have i0 : (0 : Int) ≤ k := by omega
        have i1 : (k : Int) < l.length := by omega
        clear hrow hr hrown hcells hx hpp HX
        go_wp2
        go_loopw [9, 10] (fun ag j wq => ∃ q : Nat, j = .int .i64 q ∧ q ≤ k ∧ ag = .bool (againB l gone x q) ∧ ∃ n, wq = wo.drewN n) (fun _ j _ => k - (intOf j).toNat)
        case atStart => exact ⟨0, rfl, by omega, by simp [againB], 0, rfl⟩
        case round =>
          obtain ⟨q, rfl, hq, rfl, nn, rfl⟩ := hrel
          by_cases hqk : q < k
          · obtain ⟨g, rfl, hgl, hc⟩ := HC.out q hqk
            have hnx := againB_next (l := l) (gone := gone) (x := x) (q := q) (by omega)
            have hgd : (l[q]?.getD ⟨0, ⟨#[]⟩, 0⟩) = l[q] := by rw [List.getElem?_eq_getElem (by omega)]; rfl
            rw [hgd] at hc
            generalize l[q].name = y at hc hnx
            have HNX := Lib.hid hnx
            clear hnx hgd
            have j0 : (0 : Int) ≤ q := by omega
            have j1 : (q : Int) < k := by omega
            cases hag : againB l gone x q with
            | true =>
              rw [hag] at HNX
              clear hag
              go_wp2
              go_quiet (fail)
              go_wp2
              go_roundw
              case rel => exact ⟨q + 1, by go_num, by omega, by rw [HNX.out]; rfl, nn + _, rfl⟩
              case measure => simp [intOf]; omega
            | false =>
              rw [hag] at HNX
              clear hag
              go_wp2
              go_quiet (fail)
              go_wp2
              go_roundw
              case rel => exact ⟨q + 1, by go_num, by omega, by rw [HNX.out]; simp, nn + _, rfl⟩
              case measure => simp [intOf]; omega
          · obtain rfl : q = k := by omega
            have HRD := Lib.hid (HR.out.keep ((Keeps.refl (fun _ => False) wo).drewN nn))
            cases hag : againB l gone x q with
            | true =>
              clear hag
              go_wp2_with fail
              refine (live_any _).mono ?_
              rintro e w5 ⟨rfl, k5⟩
              have HF := Lib.hid (K0.tr HRD.out.k0 k5)
              clear k5
              go_wp2
              go_ret
              exact ⟨rfl, HF.out⟩
            | false =>
              have HAG := Lib.hid (againB_false hag)
              clear hag
              have hown := HRD.out.row
              have y1 : (wo.drewN nn).cell? ⟨b, off + q * 3 + 1, none⟩ = some (.string x) := x1
              have y2 : (wo.drewN nn).cell? ⟨b, off + q * 3 + 2, none⟩ = some (.int .i64 pp) := x2
              have hbl2 : b < (wo.drewN nn).heap.size := hbl
              have hsz2 := HRD.out.size
              clear x0 x1 x2 hbl HC
              generalize hwd : wo.drewN nn = wd at hown y1 y2 hbl2 hsz2 HRD ⊢
              clear hwd HR
              generalize hxs : ((l.take q).map fun o => Value.string o.name) = xs at hown
              have HXS := Lib.hid hxs
              clear hxs
              go_wp2_with (at_builtin; refine wpList_app1 rfl rfl Try.underlying35 info9 rfl (by decide) rfl (hown.alloc _) rfl (heap_new _ _ _ rfl) rfl rfl (by omega) (by simp; omega) ?_; intro g2 cap2 w4 hA4)
              have hgr : wd.grownBy w4 (Value.slice na q nc).ownBlock := grown_alloc hA4.grown
              have hk4 : Keeps (fun j => w.heap.size + 4 ≤ j) wd w4 := (Keeps.refl (fun j => w.heap.size + 4 ≤ j) wd).grown hgr (fun j e _ => (hown.lt j e).1)
              have z1 := hk4.cell' y1 (fun e => by have e : w.heap.size + 4 ≤ b := e; omega)
              have z2 := hk4.cell' y2 (fun e => by have e : w.heap.size + 4 ≤ b := e; omega)
              have hbl4 : b < w4.heap.size := Nat.lt_of_lt_of_le hbl2 hk4.size
              have hta := HRD.out.ta.keep hk4 (fun e => by have e : w.heap.size + 4 ≤ w.heap.size + 1 := e; omega) (fun e => by have e : w.heap.size + 4 ≤ w.heap.size := e; omega)
              have hmade := fill_made (n0 := 0) (by omega) (xs := l.take q) HRD.out.nd (by simp; omega) (l.take q).length (Nat.le_refl _)
              rw [List.take_length] at hmade
              have HCR := Lib.hid (fun (wx : World) (hk : K0 w4 wx) => create_at (w.heap.size + 1) w.heap.size (fillO 0 (l.take q)) x pp wx (hta.keep hk (fun e => e) (fun e => e)) hmade.next.1)
              have HGR := Lib.hid hgr
              have HOW := Lib.hid hA4.own
              have hkk : K0 w4 w4.drew := (Keeps.refl _ _).drew
              have hnt : ¬ TblS (w.heap.size + 1) w.heap.size b := by unfold TblS; omega
              clear hA4 hgr hk4 y1 y2 hbl2 hta hmade hown
              go_region_held3 (fun w' => w'.cell? ⟨b, off + q * 3 + 1, none⟩ = some (.string x) ∧ w'.cell? ⟨b, off + q * 3 + 2, none⟩ = some (.int .i64 pp))
                (first | go_keep | (go_split_ands; refine ⟨?_, ?_⟩ <;> first | assumption | exact Keeps.cell' (by assumption) (by assumption) hnt))
                (first | (go_at_call 10; refine (HCR.out _ hkk).mono ?_; rintro e w5 ⟨rfl, hT, hkT⟩))
              have hK5 : Keeps (TblS (w.heap.size + 1) w.heap.size) w4 w5 := (hkk.mono (fun _ _ e => e.elim)).trans hkT (fun _ _ e => e)
              have hlq := HLT.out
              have hxq : l[q].name = x := HXN.out
              have hpq : l[q].parts = pp := HPP.out
              have hT2 : TblAt w5 (w.heap.size + 1) w.heap.size (addO (fillO 0 (l.take q)) l[q]) := by
                unfold addO
                rw [hxq, hpq]
                exact hT
              have a1 : w4.ownsRow (w.heap.size + 4) 9 1 (.slice (some ⟨g2, 0, none⟩) (q + 1) cap2) (q + 1) (((l.take q).map fun o => .string o.name) ++ [.string l[q].name]) := by
                rw [HXS.out, hxq]
                exact HOW.out
              have a2 : ∀ o ∈ l.take q, o.name ≠ l[q].name := by
                rw [hxq]
                exact HAG.out.2
              have a3 : l[q].name ≠ gone := by
                rw [hxq]
                exact HAG.out.1
              have HADD := Lib.hid (HRD.out.add hlq a1 HGR.out hT2 hK5 a2 a3)
              clear a1 a2 a3 hT hkT hK5 hT2 hxq hpq
              go_wp2
              go_roundw
              case rel => exact ⟨q + 1, some ⟨g2, 0, none⟩, cap2, by go_num, by omega, rfl, HADD.out⟩
              case measure => simp [intOf]; omega
      · obtain rfl : k = l.length := by omega
        have HR := Lib.hid hr
        obtain ⟨n1, hn0, hn10, htb, hnx⟩ := gone_back gone
        have htl : l.take l.length = l := List.take_length
        have HTL := Lib.hid htl
        have hcr := create_at (w.heap.size + 3) (w.heap.size + 2) ⟨0, []⟩ gone 3 wo hr.tb (Int.le_refl _)
        have HCR := Lib.hid hcr
        have HTB := Lib.hid htb
        clear hr hcr htb hnx htl
        go_wp2_with fail
        refine HCR.out.mono ?_
        rintro e w3 ⟨rfl, hT3, hk3⟩
        have HDL := Lib.hid (delete_any (w.heap.size + 3) (w.heap.size + 2) _ gone w3 hT3)
        have HK3 := Lib.hid hk3
        clear hT3 hk3
        go_wp2_with fail
        refine HDL.out.mono ?_
        rintro e w4 ⟨rfl, hT4, hk4⟩
        rw [HTB.out] at hT4
        have hnd := HR.out.nd
        rw [HTL.out] at hnd
        have HND := Lib.hid hnd
        have hta3 := (HR.out.ta.keep HK3.out (by unfold TblS; omega) (by unfold TblS; omega)).keep hk4 (by unfold TblS; omega) (by unfold TblS; omega)
        rw [HTL.out] at hta3
        have H4 : Hid (BRel w l n1 0 w4) := ⟨hta3, hT4, (HR.out.k0.trans HK3.out (fun j hj e => by unfold TblS at e; omega)).trans hk4 (fun j hj e => by unfold TblS at e; omega)⟩
        clear hT4 hk4 hta3 hnd
        generalize (((⟨0, []⟩ : Tbl).create gone 3).2.2.find gone).1 = f1
        generalize (((⟨0, []⟩ : Tbl).create gone 3).2.2.find gone).2.2 = f2
        generalize (((⟨0, []⟩ : Tbl).create gone 3).1) = f3
        generalize (((⟨0, []⟩ : Tbl).create gone 3).2.1) = f4
        go_wp2
        go_loopw [11] (fun i wr => ∃ j : Nat, i = .int .i64 ((l.length : Int) - 1 - j) ∧ j ≤ l.length ∧ BRel w l n1 j wr) (fun i _ => (intOf i + 1).toNat)
        case atStart => exact ⟨0, by simp, by omega, H4.out⟩
        case round =>
          obtain ⟨j, rfl, hj, hb⟩ := hrel
          obtain ⟨wp, rfl⟩ : ∃ wp : World, wp = wr := ⟨_, rfl⟩
          by_cases hjl : j < l.length
          · obtain ⟨N, hN⟩ : ∃ N : Nat, (N : Int) = (l.length : Int) - 1 - j := ⟨l.length - 1 - j, by omega⟩
            have hNl : N < l.length := by omega
            obtain ⟨b, off, rfl, hrow⟩ := HS.out.row hNl
            obtain ⟨x0, x1, x2, hbl⟩ := op_cells hrow hb.k0 (fun _ e => e) N hNl
            have hbw : b < w.heap.size := by
              obtain ⟨cs, h1, h2, h3⟩ := hrow N hNl
              have h4 := h2 0 (by omega)
              rw [h3] at h4
              exact World.block_lt_of_cell? w _ h4
            have hrev : l.reverse[j]'(by simpa using hjl) = l[N] := by
              rw [List.getElem_reverse]
              congr 1
              omega
            have hmade := fill_made (n0 := n1) ⟨hn0, hn10⟩ (xs := l.reverse) (by rw [List.map_reverse]; exact (List.reverse_perm _).nodup_iff.2 HND.out) (by simpa using hl20) j (by simpa using hj)
            have hfn := fill_next n1 l.reverse (i := j) (by simpa using hjl)
            rw [hrev] at hfn
            have HFN := Lib.hid hfn
            have HBR := Lib.hid hb
            have HCR2 := Lib.hid (fun (wx : World) (hk : K0 wp wx) => create_at (w.heap.size + 3) (w.heap.size + 2) (fillO n1 (l.reverse.take j)) l[N].name l[N].parts wx (hb.tb.keep hk (fun e => e) (fun e => e)) (by have := hmade.next.1; omega))
            generalize hx : l[N].name = x at x1 HCR2
            generalize hpp : l[N].parts = pp at x2 HCR2
            have HXN := Lib.hid hx
            have HPP := Lib.hid hpp
            have hNv : ((l.length : Int) - 1 - j) = (N : Int) := hN.symm
            have i0 : (0 : Int) ≤ N := by omega
            have i1 : (N : Int) < l.length := by omega
            have hkk : K0 wp wp.drew := (Keeps.refl _ _).drew
            have hnt : ¬ TblS (w.heap.size + 3) (w.heap.size + 2) b := by unfold TblS; omega
            have HNV := Lib.hid hNv
            rw [hNv]
            clear hrow hrev hmade hfn hb hx hpp hN hNv x0
            go_wp2_with fail
            go_region_held3 (fun w' => w'.cell? ⟨b, off + N * 3 + 1, none⟩ = some (.string x) ∧ w'.cell? ⟨b, off + N * 3 + 2, none⟩ = some (.int .i64 pp))
              (first | go_keep | (go_split_ands; refine ⟨?_, ?_⟩ <;> first | assumption | exact Keeps.cell' (by assumption) (by assumption) hnt))
              (first | (go_at_call 10; refine (HCR2.out _ hkk).mono ?_; rintro e w5 ⟨rfl, hT, hkT⟩))
            have hK5 : Keeps (TblS (w.heap.size + 3) (w.heap.size + 2)) wp w5 := (hkk.mono (fun _ _ e => e.elim)).trans hkT (fun _ _ e => e)
            have hT2 : TblAt w5 (w.heap.size + 3) (w.heap.size + 2) (fillO n1 (l.reverse.take (j + 1))) := by
              rw [HFN.out]
              unfold addO
              rw [HXN.out, HPP.out]
              exact hT
            have HB5 : Hid (BRel w l n1 (j + 1) w5) := ⟨HBR.out.ta.keep hK5 (by unfold TblS; omega) (by unfold TblS; omega), hT2, HBR.out.k0.trans hK5 (fun q hq e => by unfold TblS at e; omega)⟩
            clear hT hkT hK5 hT2
            go_wp2
            go_roundw
            case rel => exact ⟨j + 1, by have := HNV.out; go_num, by omega, HB5.out⟩
            case measure => simp [intOf] <;> omega
          · obtain rfl : j = l.length := by omega
            have hvi : ((l.length : Int) - 1 - l.length) = -1 := by omega
            rw [hvi]
            obtain ⟨hal, hk1, hk2⟩ := alike_rev (n0 := 0) (n1 := n1) (by omega) ⟨hn0, hn10⟩ HND.out HL.out
            have hm1 := fill_made (n0 := 0) (by omega) HND.out HL.out l.length (Nat.le_refl _)
            have hm2 := fill_made (n0 := n1) ⟨hn0, hn10⟩ (xs := l.reverse) (by rw [List.map_reverse]; exact (List.reverse_perm _).nodup_iff.2 HND.out) (by simpa using HL.out) l.reverse.length (Nat.le_refl _)
            rw [List.take_length] at hm1 hm2
            have htb := hb.tb
            have e1 : l.reverse.take l.length = l.reverse := List.take_of_length_le (by simp)
            rw [e1] at htb
            have L1 := Lib.hid (list_at hb.ta hk1 (names_small hm1) (by have := hm1.len; omega))
            have L2 := Lib.hid (fun (wx : World) (hk : K0 wp wx) => list_at (htb.keep hk (fun e => e) (fun e => e)) hk2 (names_small hm2) (by have := hm2.len; simp at this; omega))
            have HAL := Lib.hid hal
            have HK1' := Lib.hid hk1
            have HK2' := Lib.hid hk2
            have HBK := Lib.hid hb.k0
            clear hb htb e1 hm1 hm2 hk1 hk2 hal hvi
            go_wp2_with fail
            refine L1.out.mono ?_
            rintro e w5 ⟨a1, c1, ss1, rfl, hp1, ho1, hs1, k5⟩
            have L2' := Lib.hid (L2.out w5 k5)
            have HP1 := Lib.hid hp1
            have HO1 := Lib.hid ho1
            have HS1 := Lib.hid hs1
            have HK5 := Lib.hid (K0.tr HBK.out k5)
            clear hp1 ho1 hs1 k5
            go_wp2_with fail
            refine L2'.out.mono ?_
            rintro e w6 ⟨a2, c2, ss2, rfl, hp2, ho2, hs2, k6⟩
            have hpp : ss1.Perm ss2 := HP1.out.trans ((alike_keys HAL.out HK1'.out HK2'.out).trans hp2.symm)
            have hss : ss1 = ss2 := sorted_eq hpp HO1.out ho2
            subst hss
            have htl : topicsL (fillO 0 l) ss1 = topicsL (fillO n1 l.reverse) ss1 := by
              unfold topicsL
              apply List.map_congr_left
              intro s hsm
              rw [alike_parts HAL.out (HP1.out.mem_iff.1 hsm) HK1'.out]
            have hs2' := hs2
            rw [← htl] at hs2'
            have hlen : (topicsL (fillO 0 l) ss1).length = ss1.length := by simp [topicsL]
            have ST := sameTopics_any w6 a1 a2 c1 c2 _ (HS1.out.keep0 stable_T k6) hs2'
            rw [hlen] at ST
            have ST := Lib.hid ST
            have HK6 := Lib.hid (K0.tr HK5.out k6)
            clear hp2 ho2 hs2 k6 hpp htl hs2' hlen
            go_wp2_with fail
            refine ST.out.mono ?_
            rintro e w7 ⟨rfl, k7⟩
            have HK7 := Lib.hid (K0.tr HK6.out k7)
            clear k7
            go_wp2_with fail
            refine (live_any _).mono ?_
            rintro e w8 ⟨rfl, k8⟩
            have HF := Lib.hid (K0.tr HK7.out k8)
            clear k8
            go_wp2
            go_ret
            exact ⟨rfl, HF.out⟩
end Go.Proofs.Ytegbiekfpcfnnaa
