/-
  AssignIdle: the walk.
-/
import Derived.Test.YtncblldhfmabbaaAm
import Derived.Test.YtncblldhfmabbaaAv
import Derived.Test.YtncblldhfmabbaaBb
import Derived.Laws.AppendOwnNone
namespace Go.Proofs.Ytncblldhfmabbaa
open Go.RowKit Fx

theorem keep_sub : Stable rSub := fun _ _ _ _ hk ⟨a, cap, h1, h2, h3⟩ => ⟨a, cap, h1, h2.keep0 stable_str hk, h3⟩
theorem keep_top : Stable rTop := fun _ _ _ _ _ h => h
theorem add_at (b off j : Nat) : (⟨b, off, none⟩ : Addr).add j = ⟨b, off + j, none⟩ := by unfold Addr.add; split <;> simp_all
/-- The cells of members. -/
def CellsOf (w : World) (subs : List SubC) (news : List Value) : Prop :=
  news.length = subs.length * 2 ∧ ∀ i (h : i < subs.length), ∃ cs : List Value, cs.length = 2 ∧ (∀ j, j < 2 → news[i * 2 + j]? = cs[j]?) ∧ rSub w cs subs[i]
theorem cells_of {w : World} {b off : Nat} {subs : List SubC} (h : RowAt 2 rSub w b off subs) :
    ∃ news, CellsOf w subs news ∧ (∀ j u, news[j]? = some u → w.cell? ((⟨b, off, none⟩ : Addr).add j) = some u) ∧ ∀ u ∈ news, u.oneCell' = true := by
  have hc : ∀ j, j < subs.length * 2 → ∃ u, w.cell? ⟨b, off + j, none⟩ = some u ∧ u.oneCell' = true := by
    intro j hj
    obtain ⟨cs, h1, h2, a, cap, rfl, _, _⟩ := h (j / 2) (by omega)
    have h3 := h2 (j % 2) (by omega)
    rw [show off + j / 2 * 2 + j % 2 = off + j by omega] at h3
    have h4 : j % 2 = 0 ∨ j % 2 = 1 := by omega
    rcases h4 with h4 | h4 <;> rw [h4] at h3 <;> exact ⟨_, h3, rfl⟩
  have hg : ∀ j, j < subs.length * 2 → ((List.range (subs.length * 2)).map fun j => (w.cell? ⟨b, off + j, none⟩).getD .nilIface)[j]? = w.cell? ⟨b, off + j, none⟩ := by
    intro j hj
    obtain ⟨u, hu, _⟩ := hc j hj
    rw [List.getElem?_map, List.getElem?_range hj]
    simp [hu]
  refine ⟨(List.range (subs.length * 2)).map fun j => (w.cell? ⟨b, off + j, none⟩).getD .nilIface, ⟨by simp, fun i hi => ?_⟩, fun j u hu => ?_, fun u hu => ?_⟩
  · obtain ⟨cs, h1, h2, h3⟩ := h i hi
    exact ⟨cs, h1, fun j hj => by rw [hg _ (by omega), ← h2 j hj, Nat.add_assoc], h3⟩
  · have hj : j < subs.length * 2 := by
      have := (List.getElem?_eq_some_iff.1 hu).1
      simpa using this
    rw [hg j hj] at hu
    rw [add_at]
    exact hu
  · obtain ⟨j, hj, rfl⟩ := List.mem_iff_getElem.1 hu
    have hj' : j < subs.length * 2 := by simpa using hj
    obtain ⟨u, hu, h1⟩ := hc j hj'
    have h5 := hg j hj'
    rw [List.getElem?_eq_getElem hj, hu] at h5
    rw [Option.some.inj h5]
    exact h1
/-- The members, copied. -/
structure MoreRel (w : World) (subs : List SubC) (v : Value) (wq : World) : Prop where
  own : ∃ news, wq.ownsRow w.heap.size 44 2 v subs.length news ∧ CellsOf w subs news
  keep : K0 w wq
theorem more_at {w w' : World} {subs : List SubC} {news : List Value} {last : Int} {base g cap : Nat} (hk : K0 w w') (hc : CellsOf w subs news) (h0 : 0 ≤ last) (h1 : last ≤ 1073741824)
    (h : w'.ownsRow base 44 2 (.slice (some ⟨g, 0, none⟩) (subs.length + 1) cap) (subs.length + 1) (news ++ [.int .i64 last, .slice none 0 0])) : SlAt 2 rSub w' (some ⟨g, 0, none⟩) cap (moreL subs last) := by
  rcases h.2 with ⟨e, _⟩ | ⟨g', cap', cur, e, hb, hg, hcp, hm, _⟩
  · cases e
  · simp only [Value.slice.injEq, Option.some.injEq, Addr.mk.injEq] at e
    obtain ⟨⟨rfl, _⟩, _, rfl⟩ := e
    refine ⟨by rw [moreL_len]; exact hcp, hm, fun _ => ⟨g, 0, rfl, fun i hi => ?_⟩⟩
    rw [moreL_len] at hi
    have hcell : ∀ j, j < 2 → w'.cell? ⟨g, 0 + i * 2 + j, none⟩ = (news ++ [.int .i64 last, .slice none 0 0])[i * 2 + j]? := fun j hj => by
      rw [Nat.zero_add]
      exact h.cellAt (i * 2 + j) (by omega)
    by_cases hlt : i < subs.length
    · obtain ⟨cs, e1, e2, e3⟩ := hc.2 i hlt
      refine ⟨cs, e1, fun j hj => ?_, ?_⟩
      · rw [hcell j hj, List.getElem?_append_left (by rw [hc.1]; omega), e2 j hj]
      · have : (moreL subs last)[i]'(by rw [moreL_len]; omega) = subs[i] := List.getElem_append_left hlt
        rw [this]
        exact keep_sub _ _ _ _ hk e3
    · obtain rfl : i = subs.length := by omega
      refine ⟨[.int .i64 last, .slice none 0 0], rfl, fun j hj => ?_, ?_⟩
      · rw [hcell j hj, List.getElem?_append_right (by rw [hc.1]; omega), hc.1]
        congr 1
        omega
      · have : (moreL subs last)[subs.length]'(by rw [moreL_len]; omega) = ⟨last, []⟩ := by
          unfold moreL
          rw [List.getElem_append_right (Nat.le_refl _)]
          simp
        rw [this]
        refine ⟨none, 0, rfl, ⟨Nat.le_refl _, by unfold maxLen; omega, fun h => absurd rfl h⟩, ?_⟩
        have hmin : IntKind.i64.min = -9223372036854775808 := rfl
        have hmax : IntKind.i64.max = 9223372036854775807 := rfl
        simp only [Lit.wf, Bool.and_eq_true, decide_eq_true_eq]
        omega
theorem wpList_append_nil_none {P : Program} {w : World} {ops : Array Oper} {rest : List Oper} {o : Oper} {a : Act} {Q : Exit → Act → World → Prop} (hgd : o.guard = none) (s x : Operand) (t : TypeId)
    (ho : o.op = .call { callee := .builtin .append, args := #[s, x], argTypes := #[t, t] }) (e : TypeId) (i : TypeInfo) (ht : P.underlying t = some (.slice e)) (hi : P.info? e = some i)
    (hs : a.eval s = .slice none 0 0) (c : Nat) (hx : a.eval x = .slice none 0 c) (h : wpList P ops Q rest (a.put o.dst (.slice none 0 0)) w) : wpList P ops Q (o :: rest) a w := by
  refine wpList_plain hgd fun K hK => ?_
  have hrun : (Builtin.append_ #[t, t] o.type #[.slice none 0 0, .slice none 0 c]).run P w = .ok (.slice none 0 0) w := by
    simp [Builtin.append_, run_underlying ht, sizeOf, typeInfo, hi, Builtin.lenOf, Builtin.firstCells]
  unfold Oper.wp
  simp [execOp, ho, resolve, invoke, builtin, hs, hx, hrun, Result.andThen]
  exact hK _ _ h
/-- An append of a row that lies somewhere, onto a row that the call owns. -/
theorem wpList_appN {P : Program} {w : World} {ops : Array Oper} {rest : List Oper} {o : Oper} {a : Act} {Q : Exit → Act → World → Prop} (hgd : o.guard = none) {s x : Operand} {t : TypeId}
    (ho : o.op = .call { callee := .builtin .append, args := #[s, x], argTypes := #[t, t] })
    {base : Nat} {e : TypeId} {z : Value} {size bytes : Nat} (ht : P.underlying t = some (.slice e)) (hinfo : (P.info? e).map (fun i => (i.zero, i.size, i.bytes)) = some (some z, size, bytes)) (hzs : z.cells.size = size) (hsz : 0 < size)
    {v : Value} {n : Nat} {xs : List Value} (hs : a.eval s = v) (hown : w.ownsRow base e size v n xs) {ad : Addr} {m c : Nat} {news : List Value} (hx : a.eval x = .slice (some ad) m c) (hl : news.length = m * size)
    (hnews : ∀ j u, news[j]? = some u → w.cell? (ad.add j) = some u) (h1 : ∀ u ∈ news, u.oneCell' = true) (hn : n + m ≤ 1000000 ∧ bytes ≤ 1000000) (hbase : base ≤ w.heap.size)
    (h : ∀ v' w', w'.ownsRow base e size v' (n + m) (xs ++ news) → w.grownBy w' v.ownBlock → wpList P ops Q rest (a.put o.dst v') w') : wpList P ops Q (o :: rest) a w := by
  obtain ⟨i, hi, hz, hz1, hz2⟩ := info_parts hinfo
  refine wpList_append_own w hgd s x t ho base e i z size bytes ht hi hz hz1 hz2 hzs hsz v n xs hs hown ad m c news hx hl hnews h1 (by unfold maxLen; omega) ?_ hbase fun v' w' h2 h3 _ => h v' w' h2 h3
  have : (n + m) * bytes ≤ 1000000 * 1000000 := Nat.mul_le_mul hn.1 hn.2
  omega
theorem info44 : (Try.prog.info? 44).map (fun i => (i.zero, i.size, i.bytes)) = some (some (.agg #[.int .i64 0, .slice none 0 0]), 2, 32) := by kernel_rfl
theorem sl_front {α : Type} {n : Nat} {R : Rdr α} {w : World} {a : Option Addr} {cap : Nat} {l : List α} {x : α} (h : SlAt n R w a cap (l ++ [x])) : SlAt n R w a cap l := by
  obtain ⟨h1, h2, h3⟩ := h
  refine ⟨by rw [List.length_append] at h1; omega, h2, fun _ => ?_⟩
  obtain ⟨b, off, e, h4⟩ := h3 (by simp)
  refine ⟨b, off, e, fun i hi => ?_⟩
  obtain ⟨cs, e1, e2, e3⟩ := h4 i (by rw [List.length_append]; omega)
  rw [List.getElem_append_left hi] at e3
  exact ⟨cs, e1, e2, e3⟩
theorem last_share {w0 w : World} {a : Option Addr} {cap : Nat} {l : List ShareC} {x : ShareC} (h : SlAt 2 rShare w0 a cap (l ++ [x])) (hb : Below w0.heap.size w0 w) :
    ∃ b off pa pc, a = some ⟨b, off, none⟩ ∧ w.cell? ⟨b, off + l.length * 2 + 1, none⟩ = some (.slice pa x.parts.length pc) ∧ b < w.heap.size := by
  obtain ⟨b, off, e, h4⟩ := h.row (k := l.length) (by simp)
  obtain ⟨pa, pc, _, h5, h6, _⟩ := share_cells h4 hb l.length (by simp)
  rw [List.getElem_append_right (Nat.le_refl _)] at h5
  simp only [Nat.sub_self, List.getElem_cons_zero] at h5
  exact ⟨b, off, pa, pc, e, h5, h6⟩
theorem range_ok9 (w0 w : World) (sa ta : Option Addr) (sc tc : Nat) (subs : List SubC) (tops : List TopC) (hs : SlAt 2 rSub w0 sa sc subs) (ht : SlAt 2 rTop w0 ta tc tops) (hb : Below w0.heap.size w0 w) (hc : chk subs tops = 0) :
    Calls Try.prog 9 #[.slice sa subs.length sc, .slice ta tops.length tc] w (ListPost w 0 (rangeL subs tops)) := by
  have h := range9 w0 w sa ta sc tc subs tops hs ht hb
  rw [hc] at h
  exact h.mono fun e w' hq => hq.list
theorem round_ok11 (w0 w : World) (sa ta : Option Addr) (sc tc : Nat) (subs : List SubC) (tops : List TopC) (hs : SlAt 2 rSub w0 sa sc subs) (ht : SlAt 2 rTop w0 ta tc tops) (hb : Below w0.heap.size w0 w) (hc : chk subs tops = 0) :
    Calls Try.prog 11 #[.slice sa subs.length sc, .slice ta tops.length tc] w (ListPost w 0 (roundL subs tops)) := by
  have h := round11 w0 w sa ta sc tc subs tops hs ht hb
  rw [hc] at h
  exact h.mono fun e w' hq => hq.list
theorem range_more9 (w0 w : World) (sa ta : Option Addr) (sc tc : Nat) (subs : List SubC) (tops : List TopC) (last : Int) (hs : SlAt 2 rSub w0 sa sc (moreL subs last)) (ht : SlAt 2 rTop w0 ta tc tops) (hb : Below w0.heap.size w0 w) (hc : chk (moreL subs last) tops = 0) :
    ∀ n1, subs.length + 1 = n1 → Calls Try.prog 9 #[.slice sa n1 sc, .slice ta tops.length tc] w (ListPost w 0 (rangeL subs tops ++ [⟨last, []⟩])) := by
  rintro _ rfl
  have h := range_ok9 w0 w sa ta sc tc (moreL subs last) tops hs ht hb hc
  rwa [moreL_len, range_more] at h
theorem round_more11 (w0 w : World) (sa ta : Option Addr) (sc tc : Nat) (subs : List SubC) (tops : List TopC) (last : Int) (hs : SlAt 2 rSub w0 sa sc (moreL subs last)) (ht : SlAt 2 rTop w0 ta tc tops) (hb : Below w0.heap.size w0 w) (hc : chk (moreL subs last) tops = 0) :
    ∀ n1, subs.length + 1 = n1 → Calls Try.prog 11 #[.slice sa n1 sc, .slice ta tops.length tc] w (ListPost w 0 (roundL subs tops ++ [⟨last, []⟩])) := by
  rintro _ rfl
  have h := round_ok11 w0 w sa ta sc tc (moreL subs last) tops hs ht hb hc
  rwa [moreL_len, round_more] at h
def lastOk (subs : List SubC) (last : Int) : Prop := (subs.length = 0 ∧ last = 0) ∨ ∃ h : subs.length - 1 < subs.length, last = subs[subs.length - 1].member + 1
theorem lastOk.more {subs : List SubC} {tops : List TopC} {last : Int} (h : lastOk subs last) (hc : chk subs tops = 0) (hn : subs.length ≤ 19) (hl : last ≤ 1073741824) : 0 ≤ last ∧ chk (moreL subs last) tops = 0 := by
  rcases h with ⟨h1, rfl⟩ | ⟨h1, rfl⟩
  · exact ⟨by omega, chk_more hc hn (by omega) hl fun k hk => by omega⟩
  · have h2 := chk_member hc _ h1
    refine ⟨by omega, chk_more hc hn (by omega) hl fun k hk e => ?_⟩
    obtain rfl : k = subs.length - 1 := by omega
    omega

set_option maxRecDepth 100000 in
set_option maxHeartbeats 4000000 in
theorem idle_any (w : World) (sa ta : Option Addr) (sc tc : Nat) (subs : List SubC) (tops : List TopC) (hs : SlAt 2 rSub w sa sc subs) (ht : SlAt 2 rTop w ta tc tops) :
    Calls Try.prog 6 #[.slice sa subs.length sc, .slice ta tops.length tc] w fun e w' => Same w e (.bool true) w' := by
  have HFW := Lib.hid (few_any w w sa ta sc tc subs tops hs ht (Below.refl _ _))
  have C8 := Lib.hid (fun (x : World) (h : K0 w x) => check14 w x sa ta sc tc subs tops hs ht h.below)
  have HCC := Lib.hid (chk_cases subs tops)
  have hms := hs.len
  have hmt := ht.len
  have HS := Lib.hid hs
  have HT := Lib.hid ht
  have LR := Lib.hid (rangeL_len subs tops)
  have LO := Lib.hid (roundL_len subs tops)
  clear hs ht
  cases hw : fewB subs tops with
  | false =>
    rw [hw] at HFW
    go_enter Try.func6, Try.ntmps6
    go_wp2_with fail
    refine HFW.out.mono ?_
    rintro e w1 ⟨rfl, k1⟩
    go_wp2_with fail
    refine (live8 _).mono ?_
    rintro e w2 ⟨rfl, k2⟩
    go_wp2
    go_ret
    exact ⟨rfl, K0.tr k1 k2⟩
  | true =>
    rw [hw] at HFW
    clear hw
    by_cases hn : (subs.length : Int) > 19
    · go_enter Try.func6, Try.ntmps6
      go_wp2_with fail
      refine HFW.out.mono ?_
      rintro e w1 ⟨rfl, k1⟩
      go_wp2_with fail
      refine (live8 _).mono ?_
      rintro e w2 ⟨rfl, k2⟩
      go_wp2
      go_ret
      exact ⟨rfl, K0.tr k1 k2⟩
    have hcc := HCC.out
    rcases hcc with hc | hc
    · rw [hc] at C8
      have HC := Lib.hid hc
      clear hc
      go_enter Try.func6, Try.ntmps6
      go_wp2_with fail
      refine HFW.out.mono ?_
      rintro e w1 ⟨rfl, k1⟩
      go_wp2_with fail
      refine (C8.out _ k1).mono ?_
      rintro e w2 ⟨rfl, k2⟩
      have T2 := Lib.hid (K0.tr k1 k2)
      clear k1 k2 C8 HFW
      have hla : ∃ last, lastOk subs last := by
        by_cases h0 : 0 < subs.length
        · exact ⟨_, .inr ⟨by omega, rfl⟩⟩
        · exact ⟨0, .inl ⟨by omega, rfl⟩⟩
      obtain ⟨last, hla⟩ := hla
      have HLA := Lib.hid hla
      clear hla
      go_upto_if 33 with fail
      go_cut [5] (fun lv wq => lv = .int .i64 last ∧ wq = w2)
      case first =>
        rcases HLA.out with ⟨h0, rfl⟩ | ⟨h1, h2⟩
        · have h0' : (subs.length : Int) = 0 := by omega
          go_wp2
          go_meet
          case rel => exact ⟨rfl, rfl⟩
        · have h0' : (0 : Int) < subs.length := by omega
          obtain ⟨b, off, rfl, hr'⟩ := HS.out.row h1
          obtain ⟨a1, cap1, c0, _, hbl, _⟩ := sub_cells hr' T2.out.below _ h1
          have hmm := chk_member HC.out _ h1
          generalize subs[subs.length - 1].member = mm at c0 h2 hmm
          subst h2
          obtain ⟨m, hm⟩ : ∃ m, subs.length = m + 1 := ⟨subs.length - 1, by omega⟩
          have hm1 : subs.length - 1 = m := by omega
          rw [hm1] at c0
          have hm2 : (subs.length : Int) - 1 = m := by omega
          have i0 : (0 : Int) ≤ m := by omega
          have i1 : (m : Int) < subs.length := by omega
          clear hr' hm1
          go_wp2
          go_meet
          case rel => exact ⟨by go_num, rfl⟩
      case rest =>
        obtain ⟨rfl, e2⟩ := hcut
        subst e2
        by_cases hl : last > 1073741824
        · go_wp2_with fail
          refine (live8 _).mono ?_
          rintro e w3 ⟨rfl, k3⟩
          go_wp2
          go_ret
          exact ⟨rfl, K0.tr T2.out k3⟩
        · obtain ⟨hl0, hcm⟩ := HLA.out.more HC.out (by omega) (by omega)
          have HCM := Lib.hid hcm
          have HS2 := Lib.hid (HS.out.keep0 keep_sub T2.out)
          clear hcm
          obtain ⟨wz, rfl⟩ : ∃ wz : World, wz = wc := ⟨_, rfl⟩
          go_upto_region 9 with fail
          go_cut [6] (fun v wq => MoreRel wz subs v wq)
          case first =>
            by_cases h0 : 0 < subs.length
            · obtain ⟨b, off, rfl, hr⟩ := HS2.out.row h0
              obtain ⟨news, hn1, hn2, hn3⟩ := cells_of hr
              have HN := Lib.hid hn1
              have hn4 := hn1.1
              clear hr hn1
              go_wp2_with (at_builtin; refine wpList_appN rfl rfl Try.underlying22 info44 rfl (by decide) rfl (World.ownsRow_nil _ wz.heap.size _ _) rfl hn4 hn2 hn3 ⟨by omega, by decide⟩ (Nat.le_refl _) ?_; intro v1 w3 hv1 hv2)
              go_meet
              case rel => exact ⟨⟨news, by simpa using hv1, HN.out⟩, (Keeps.refl _ _).grown hv2 (fun k e _ => by cases e)⟩
            · have h0' : subs = [] := List.eq_nil_of_length_eq_zero (by omega)
              subst h0'
              cases sa with
              | none =>
                go_wp2_with (at_builtin; refine wpList_append_nil_none rfl _ _ 22 rfl 44 _ Try.underlying22 rfl rfl sc rfl ?_)
                go_meet
                case rel => exact ⟨⟨[], World.ownsRow_nil _ _ _ _, rfl, fun i hi => absurd hi (Nat.not_lt_zero _)⟩, Keeps.refl _ _⟩
              | some ad =>
                go_wp2_with (at_builtin; refine wpList_appN (news := []) rfl rfl Try.underlying22 info44 rfl (by decide) rfl (World.ownsRow_nil _ wz.heap.size _ _) rfl rfl (fun j u h => by simp at h) (fun u h => by simp at h) ⟨by simp, by decide⟩ (Nat.le_refl _) ?_; intro v1 w3 hv1 hv2)
                go_meet
                case rel => exact ⟨⟨[], by simpa using hv1, rfl, fun i hi => absurd hi (Nat.not_lt_zero _)⟩, (Keeps.refl _ _).grown hv2 (fun k e _ => by cases e)⟩
          case rest =>
            obtain ⟨⟨news, hown, hcl⟩, hkm⟩ := hcut
            have HCL := Lib.hid hcl
            have hsz := hkm.size
            have HKM := Lib.hid hkm
            have HT2 := Lib.hid (HT.out.keep0 keep_top T2.out)
            clear hcl hkm
            go_wp2_with (at_builtin; refine wpList_app1 rfl rfl Try.underlying22 info44 rfl (by decide) rfl (hown.alloc _) rfl (heap_new _ _ _ rfl) rfl rfl ⟨by omega, by decide⟩ (by simp; omega) ?_; intro g cap w4 hA)
            have k4 : K0 wz w4 := HKM.out.grown (grown_alloc hA.grown) (fun k e hk => by have := (hown.lt k e).1; omega)
            have hm := more_at k4 HCL.out hl0 (by omega) hA.own
            have hs4 := HS2.out.keep0 keep_sub k4
            have ht4 := HT2.out.keep0 keep_top k4
            generalize hn1 : subs.length + 1 = n1
            have C1 := Lib.hid (fun (x : World) (h : K0 w4 x) => range_ok9 w4 x sa ta sc tc subs tops hs4 ht4 h.below HC.out)
            have C2 := Lib.hid (fun (x : World) (h : K0 w4 x) => range_more9 w4 x (some ⟨g, 0, none⟩) ta cap tc subs tops last hm ht4 h.below HCM.out n1 hn1)
            have C3 := Lib.hid (fun (x : World) (h : K0 w4 x) => round_ok11 w4 x sa ta sc tc subs tops hs4 ht4 h.below HC.out)
            have C4 := Lib.hid (fun (x : World) (h : K0 w4 x) => round_more11 w4 x (some ⟨g, 0, none⟩) ta cap tc subs tops last hm ht4 h.below HCM.out n1 hn1)
            have T4 := Lib.hid (K0.tr T2.out k4)
            clear hm hs4 ht4 hown k4 hA HKM HCL hsz
            generalize rangeL subs tops = lr at C1 C2 LR
            generalize roundL subs tops = lo at C3 C4 LO
            refine (C1.out _ (Keeps.refl _ _)).mono ?_
            rintro e w5 ⟨a1, c1, rfl, s1, k5⟩
            rw [LR.out]
            go_wp2_with fail
            refine (C2.out _ k5).mono ?_
            rintro e w6 ⟨a2, c2, rfl, s2, k6⟩
            have e2 : (lr ++ [(⟨last, []⟩ : ShareC)]).length = n1 := by rw [List.length_append, LR.out]; exact hn1
            rw [e2]
            have s1 := s1.keep0 stable_share k6
            have k6 := K0.tr k5 k6
            clear e2 k5
            go_wp2_with fail
            refine (C3.out _ k6).mono ?_
            rintro e w7 ⟨a3, c3, rfl, s3, k7⟩
            rw [LO.out]
            have s1 := s1.keep0 stable_share k7
            have s2 := s2.keep0 stable_share k7
            have k7 := K0.tr k6 k7
            clear k6
            go_wp2_with fail
            refine (C4.out _ k7).mono ?_
            rintro e w8 ⟨a4, c4, rfl, s4, k8⟩
            have e4 : (lo ++ [(⟨last, []⟩ : ShareC)]).length = n1 := by rw [List.length_append, LO.out]; exact hn1
            rw [e4]
            have s1 := s1.keep0 stable_share k8
            have s2 := s2.keep0 stable_share k8
            have s3 := s3.keep0 stable_share k8
            have T8 := Lib.hid (K0.tr T4.out (K0.tr k7 k8))
            have D1 := same13 w8 w8 a1 a2 c1 c2 lr s1 (sl_front s2) (Below.refl _ _)
            have D2 := Lib.hid (fun (x : World) (h : K0 w8 x) => same13 w8 x a3 a4 c3 c4 lo s3 (sl_front s4) h.below)
            rw [LR.out] at D1
            rw [LO.out] at D2
            have D1 := Lib.hid D1
            obtain ⟨b2, o2, pa2, pc2, rfl, x2, hb2⟩ := last_share s2 (Below.refl _ _)
            obtain ⟨b4, o4, pa4, pc4, rfl, x4, hb4⟩ := last_share s4 (Below.refl _ _)
            have hc2 := s2.1
            have hc4 := s4.1
            have hc2' := s2.2.1
            have hc4' := s4.2.1
            unfold maxLen at hc2' hc4'
            rw [List.length_append, LR.out] at hc2
            rw [List.length_append, LO.out] at hc4
            rw [LR.out] at x2
            rw [LO.out] at x4
            simp only [List.length_cons, List.length_nil, Nat.zero_add] at hc2 hc4
            clear s1 s2 s3 s4 e4 k7 k8 C1 C2 C3 C4 LR LO
            have i1 : ((n1 : Int) != (subs.length : Int) + 1) = false := by rw [← hn1]; simp
            have i2 : (n1 : Int) = (subs.length : Int) + 1 := by omega
            have i3 : (subs.length : Int) ≤ c2 := by omega
            have i4 : (subs.length : Int) ≤ c4 := by omega
            have i5 : (subs.length : Int) < n1 := by omega
            have i6 : (0 : Int) ≤ subs.length := by omega
            simp only [List.length_nil] at x2 x4
            go_wp2_with fail
            refine D1.out.mono ?_
            rintro e w9 ⟨rfl, n9, h9⟩
            have k9 : K0 w8 w9 := by rw [h9]; exact (Keeps.refl _ _).drewN _
            clear h9
            go_wp2_with fail
            refine (D2.out _ k9).mono ?_
            rintro e w10 ⟨rfl, n10, h10⟩
            have k10 : K0 w8 w10 := by rw [h10]; exact k9.drewN _
            clear h10
            have y2 := k10.cell' x2 (fun e => e)
            have y4 := k10.cell' x4 (fun e => e)
            have hz2 := cell_block y2
            have hz4 := cell_block y4
            have T10 := Lib.hid (K0.tr T8.out k10)
            clear k9 k10 x2 x4 D1 D2
            go_wp2_with fail
            refine (live8 _).mono ?_
            rintro e w11 ⟨rfl, k11⟩
            go_wp2
            go_ret
            exact ⟨by simp, K0.tr T10.out k11⟩
    · rw [hc] at C8
      go_enter Try.func6, Try.ntmps6
      go_wp2_with fail
      refine HFW.out.mono ?_
      rintro e w1 ⟨rfl, k1⟩
      go_wp2_with fail
      refine (C8.out _ k1).mono ?_
      rintro e w2 ⟨rfl, k2⟩
      have t2 := K0.tr k1 k2
      go_wp2_with fail
      refine (live8 _).mono ?_
      rintro e w3 ⟨rfl, k3⟩
      go_wp2
      go_ret
      exact ⟨rfl, K0.tr t2 k3⟩
end Go.Proofs.Ytncblldhfmabbaa
