/-
  IdemAgain: each of a producer's last five is told again, with its own Base: the walk.
-/
import Derived.Test.YtbjpifipjcfhkaaIu
import Derived.Deep.RegionHeld3
namespace Go.Proofs.Ytbjpifipjcfhkaa
open Go.RowKit Fx

def rowL (bl : List BatchC) : List Value := bl.flatMap fun b => (bcells b).toList
theorem rowL_len (bl : List BatchC) : (rowL bl).length = bl.length * 6 := by
  unfold rowL
  induction bl with
  | nil => rfl
  | cons b l ih => rw [List.flatMap_cons, List.length_append, ih, List.length_cons]; show 6 + _ = _; omega
theorem rowL_at : ∀ (bl : List BatchC) (i : Nat) (h : i < bl.length) (j : Nat), j < 6 → (rowL bl)[i * 6 + j]? = (bcells bl[i])[j]?
  | b :: l, 0, _, j, hj => by
    unfold rowL
    rw [List.flatMap_cons, List.getElem?_append_left (by show _ < 6; omega)]
    simp
  | b :: l, i + 1, h, j, hj => by
    have := rowL_at l i (by simpa using h) j hj
    unfold rowL at this ⊢
    rw [List.flatMap_cons, List.getElem?_append_right (by show 6 ≤ _; omega)]
    rw [show (i + 1) * 6 + j - (bcells b).toList.length = i * 6 + j by show (i + 1) * 6 + j - 6 = _; omega, this]
    simp
theorem row_cells {w : World} {base : Nat} {bl : List BatchC} {g cap : Nat} (h : w.ownsRow base 31 6 (.slice (some ⟨g, 0, none⟩) bl.length cap) bl.length (rowL bl)) {i : Nat} (hi : i < bl.length) :
    w.cell? ⟨g, i * 6, none⟩ = some (.int .i64 bl[i].base) ∧ w.cell? ⟨g, i * 6 + 1, none⟩ = some (.int .i64 bl[i].span) ∧ w.cell? ⟨g, i * 6 + 2, none⟩ = some (.int .i64 bl[i].prod) ∧
    w.cell? ⟨g, i * 6 + 3, none⟩ = some (.int .i64 bl[i].epoch) ∧ w.cell? ⟨g, i * 6 + 4, none⟩ = some (.int .i64 bl[i].seq) ∧ w.cell? ⟨g, i * 6 + 5, none⟩ = some (.slice bl[i].ra bl[i].rn bl[i].rc) ∧ g < w.heap.size := by
  have hc : ∀ j, j < 6 → w.cell? ⟨g, i * 6 + j, none⟩ = (bcells bl[i])[j]? := fun j hj => by
    rw [h.cellAt (i * 6 + j) (by have := rowL_len bl; omega), rowL_at bl i hi j hj]
  exact ⟨hc 0 (by omega), hc 1 (by omega), hc 2 (by omega), hc 3 (by omega), hc 4 (by omega), hc 5 (by omega), (h.lt g rfl).2⟩
theorem own_keepT {w w' : World} {S : Nat → Prop} (hk : Keeps S w w') {base : Nat} {e : TypeId} {size : Nat} {v : Value} {n : Nat} {xs : List Value} (h : w.ownsRow base e size v n xs) (hS : ∀ k, v.ownBlock = some k → ¬ S k) : w'.ownsRow base e size v n xs := by
  refine ⟨h.1, h.2.elim .inl fun ⟨g, cap, cur, h1, h2, h3⟩ => .inr ⟨g, cap, cur, h1, h2, ?_⟩⟩
  have hlt : g < w.heap.size := (h.lt g (by rw [h1]; rfl)).2
  rw [hk.block g hlt (hS g (by rw [h1]; rfl))]
  exact h3
theorem infoBatch : (Try.prog.info? 31).map (fun i => (i.zero, i.size, i.bytes)) = some (some (.agg #[.int .i64 0, .int .i64 0, .int .i64 0, .int .i64 0, .int .i64 0, .slice none 0 0]), 6, 64) := by kernel_rfl
structure GRel (w wr : World) (pb : Nat) (nv : Value) (M : List (Int × HeardC)) (bl : List BatchC) (epoch seq base : Int) (k : Nat) : Prop where
  pf : PF w wr (fun j => nv.ownBlock = some j) pb M
  wf : WfM M
  hl : HeardL epoch bl M
  ch : Chain epoch bl seq base k
  row : wr.ownsRow w.heap.size 31 6 nv bl.length (rowL bl)
theorem GRel.keep {w wr wx : World} {pb : Nat} {nv : Value} {M : List (Int × HeardC)} {bl : List BatchC} {epoch seq base : Int} {k : Nat} (h : GRel w wr pb nv M bl epoch seq base k) (hk : K0 wr wx) : GRel w wx pb nv M bl epoch seq base k :=
  ⟨h.pf.keep hk, h.wf, h.hl, h.ch, own_keepT hk h.row (fun _ _ e => e)⟩
theorem GRel.skip {w wr : World} {pb : Nat} {nv : Value} {M : List (Int × HeardC)} {bl : List BatchC} {epoch seq base : Int} {k : Nat} (h : GRel w wr pb nv M bl epoch seq base k) : GRel w wr pb nv M bl epoch seq base (k + 1) :=
  ⟨h.pf, h.wf, h.hl, h.ch.skip, h.row⟩
/-- A batch more: noted, in the row. -/
theorem GRel.add {w wr wn w4 : World} {pb bb : Nat} {nv nv' : Value} {M : List (Int × HeardC)} {bl : List BatchC} {epoch seq base sp : Int} {k : Nat} (h : GRel w wr pb nv M bl epoch seq base k) (h0 : 0 ≤ epoch) (he : epoch ≤ 32768) (h1 : 1 ≤ sp) (h2 : sp ≤ 50) (hk : k < 40)
    (hp : PF w wn (fun j => nv.ownBlock = some j ∨ j = bb) pb (noteM M (sentC epoch seq sp base)))
    (hown : w4.ownsRow w.heap.size 31 6 nv' (bl.length + 1) (rowL bl ++ (bcells (sentC epoch seq sp base)).toList)) (hg : wn.grownBy w4 nv.ownBlock) (hat : ∀ j, nv'.ownBlock = some j → nv.ownBlock = some j ∨ wn.heap.size ≤ j) :
    GRel w w4 pb nv' (noteM M (sentC epoch seq sp base)) (bl ++ [sentC epoch seq sp base]) epoch (seq + sp) (base + sp + k) (k + 1) := by
  have hc := h.ch
  have hm : mayB (sentC epoch seq sp base) = true := by
    have := hc.seqR
    have := hc.baseR
    exact may_sent h0 he (by omega) (by omega) h1 h2 (by omega) (by omega)
  have hkk : Keeps (fun j => nv.ownBlock = some j) wn w4 := (Keeps.refl (fun j => nv.ownBlock = some j) wn).grown hg (fun j e _ => e)
  refine ⟨?_, h.wf.note _, h.hl.note h0 hm, hc.add h1 h2 hk, ?_⟩
  · have q1 := hp.keepS hkk (fun j _ e => .inl e)
    obtain ⟨mb, L, a1, a2, a3, a4, a5⟩ := hp
    have q2 : PF w wn (fun j => nv'.ownBlock = some j ∨ nv.ownBlock = some j) pb (noteM M (sentC epoch seq sp base)) := PF.more ⟨mb, L, a1, a2, a3, a4, a5⟩ (fun j e => by
      rcases e with e | e
      · rcases hat j e with e | e
        · exact .inl (.inl e)
        · exact .inr e
      · exact .inl (.inl e))
    have q3 := q2.keepS hkk (fun j _ e => .inr e)
    exact q3.more (fun j e => .inl (.inl e))
  · rw [List.length_append]
    unfold rowL at hown ⊢
    rw [List.flatMap_append]
    simpa using hown
theorem int_row {w wr : World} {b off : Nat} {l : List Int} (h : RowAt 1 rInt w b off l) (hk : K0 w wr) (k : Nat) (hlt : k < l.length) : wr.cell? ⟨b, off + k, none⟩ = some (.int .i64 l[k]) ∧ b < wr.heap.size := by
  obtain ⟨cs, hc, hj, hr⟩ := h k hlt
  have hr : cs = [.int .i64 l[k]] := hr.1
  subst hr
  have hj0 := hj 0 (by omega)
  rw [Nat.mul_one, Nat.add_zero] at hj0
  have hb : b < w.heap.size := World.block_lt_of_cell? w _ hj0
  exact ⟨hk.cell' hj0 (fun e => e), Nat.lt_of_lt_of_le hb hk.size⟩
set_option maxRecDepth 100000 in
set_option maxHeartbeats 8000000 in
theorem again_any (w : World) (a : Option Addr) (cap : Nat) (l : List Int) (epoch : Int) (hs : SlAt 1 rInt w a cap l) :
    Calls Try.prog 6 #[.slice a l.length cap, .int .i64 epoch] w fun e w' => Same w e (.bool true) w' := by
  have hm := hs.len
  have HS := Lib.hid hs
  clear hs
  by_cases g0 : 40 < (l.length : Int)
  · go_enter Try.func6, Try.ntmps6
    go_wp2_with fail
    refine (live_any _).mono ?_
    rintro e w2 ⟨rfl, k2⟩
    go_wp2
    go_ret
    exact ⟨rfl, k2⟩
  · by_cases g1 : epoch < 0
    · go_enter Try.func6, Try.ntmps6
      go_wp2_with fail
      refine (live_any _).mono ?_
      rintro e w2 ⟨rfl, k2⟩
      go_wp2
      go_ret
      exact ⟨rfl, k2⟩
    · by_cases g2 : 32768 < epoch
      · go_enter Try.func6, Try.ntmps6
        go_wp2_with fail
        refine (live_any _).mono ?_
        rintro e w2 ⟨rfl, k2⟩
        go_wp2
        go_ret
        exact ⟨rfl, k2⟩
      · have B1 : Hid (0 ≤ epoch ∧ epoch ≤ 32768) := ⟨by omega, by omega⟩
        have HL : Hid (l.length ≤ 40) := by have : l.length ≤ 40 := by omega
                                            exact this
        go_enter Try.func6, Try.ntmps6
        go_wp2_with fail
        refine (pnew_any w).mono ?_
        rintro e w1 ⟨pb, rfl, s1⟩
        have R0 : Hid (GRel w w1 pb (.slice none 0 0) [] [] epoch 0 0 0) := ⟨(PF.of s1).more (fun k e => by cases e), wf_nil, HeardL.init epoch, Chain.init epoch, World.ownsRow_nil w1 _ _ _⟩
        clear s1
        go_wp2
        go_loopw [6, 7, 8, 9] (fun sv bv nv i wr => ∃ (k : Nat) (seq base : Int) (M : List (Int × HeardC)) (bl : List BatchC) (na : Option Addr) (nc : Nat), sv = .int .i64 seq ∧ bv = .int .i64 base ∧ nv = .slice na bl.length nc ∧ i = .int .i64 k ∧ k ≤ l.length ∧ GRel w wr pb (.slice na bl.length nc) M bl epoch seq base k) (fun _ _ _ i _ => l.length - (intOf i).toNat)
        case atStart => exact ⟨0, 0, 0, [], [], none, 0, rfl, rfl, rfl, rfl, by omega, R0.out⟩
        case round =>
          obtain ⟨k, seq, base, M, bl, na, nc, rfl, rfl, rfl, rfl, hk, hr⟩ := hrel
          obtain ⟨wo, rfl⟩ : ∃ wo : World, wo = wr := ⟨_, rfl⟩
          clear R0
          by_cases hlt : k < l.length
          · obtain ⟨b, off, rfl, hrow⟩ := HS.out.row hlt
            obtain ⟨x0, hbl⟩ := int_row hrow hr.pf.st.k0 k hlt
            generalize l[k] = sp at x0
            have HR := Lib.hid hr
            have HK40 : Hid (k < 40) := by have := HL.out; have h2 : k < 40 := by omega
                                           exact h2
            have i0 : (0 : Int) ≤ k := by omega
            have i1 : (k : Int) < l.length := by omega
            clear hr
            by_cases q1 : sp < 1
            · go_wp2
              go_roundw
              case rel => exact ⟨k + 1, seq, base, M, bl, na, nc, rfl, rfl, rfl, by go_num, by omega, HR.out.skip⟩
              case measure => simp [intOf]; omega
            · by_cases q2 : 50 < sp
              · go_wp2
                go_roundw
                case rel => exact ⟨k + 1, seq, base, M, bl, na, nc, rfl, rfl, rfl, by go_num, by omega, HR.out.skip⟩
                case measure => simp [intOf]; omega
              · have HSP : Hid (1 ≤ sp ∧ sp ≤ 50) := ⟨by omega, by omega⟩
                have HLT := Lib.hid hlt
                have HKL := Lib.hid hk
                have hrw : Hid (RowAt 1 rInt w b off l) := hrow
                clear hrow
                go_wp2_with fail
                refine (sent_any epoch seq sp base _).mono ?_
                rintro e w2 ⟨rfl, k2⟩
                unfold batchV sentC
                have HR2 := Lib.hid (HR.out.keep k2)
                have x0 := k2.cell' x0 (fun e => e)
                have hbl := Nat.lt_of_lt_of_le hbl k2.size
                have hsq : 0 ≤ seq ∧ seq ≤ 2000 := by have := HR.out.ch.seqR; have := HK40.out; omega
                have hbs : 0 ≤ base ∧ base ≤ 4000 := by have := HR.out.ch.baseR; have := HK40.out; omega
                have HQ0 : Hid (k ≤ 40) := Nat.le_of_lt HK40.out
                clear k2 HR
                have BA3 : Hid (BatAt (w2.alloc (.cells #[.int .i64 base, .int .i64 sp, .int .i64 7, .int .i64 epoch, .int .i64 seq, .slice none 0 0] 31)) w2.heap.size (sentC epoch seq sp base)) := heap_new _ _ _ rfl
                have hk3 : K0 w2 (w2.alloc (.cells #[.int .i64 base, .int .i64 sp, .int .i64 7, .int .i64 epoch, .int .i64 seq, .slice none 0 0] 31)) := (Keeps.refl _ _).alloc _
                have PF3 : Hid (PF w (w2.alloc (.cells #[.int .i64 base, .int .i64 sp, .int .i64 7, .int .i64 epoch, .int .i64 seq, .slice none 0 0] 31)) (fun j => (Value.slice na bl.length nc).ownBlock = some j ∨ j = w2.heap.size) pb M) := (HR2.out.pf.more (fun j e => e.elim .inl (fun e => .inr (by rw [e]; exact Nat.le_refl _)))).keep hk3
                have HR3 := Lib.hid (HR2.out.keep hk3)
                have x0 := hk3.cell' x0 (fun e => e)
                have hbl := Nat.lt_of_lt_of_le hbl hk3.size
                have HNB : Hid (∀ j, (Value.slice na bl.length nc).ownBlock = some j → j < w2.heap.size) := fun j e => (HR2.out.row.lt j e).2
                clear hk3 HR2
                have c0 : (w2.alloc (.cells #[.int .i64 base, .int .i64 sp, .int .i64 7, .int .i64 epoch, .int .i64 seq, .slice none 0 0] 31)).cell? ⟨w2.heap.size, 0, none⟩ = some (.int .i64 base) := block_cell BA3.out 0
                have c1 : (w2.alloc (.cells #[.int .i64 base, .int .i64 sp, .int .i64 7, .int .i64 epoch, .int .i64 seq, .slice none 0 0] 31)).cell? ⟨w2.heap.size, 1, none⟩ = some (.int .i64 sp) := block_cell BA3.out 1
                have c2 : (w2.alloc (.cells #[.int .i64 base, .int .i64 sp, .int .i64 7, .int .i64 epoch, .int .i64 seq, .slice none 0 0] 31)).cell? ⟨w2.heap.size, 2, none⟩ = some (.int .i64 7) := block_cell BA3.out 2
                have c3 : (w2.alloc (.cells #[.int .i64 base, .int .i64 sp, .int .i64 7, .int .i64 epoch, .int .i64 seq, .slice none 0 0] 31)).cell? ⟨w2.heap.size, 3, none⟩ = some (.int .i64 epoch) := block_cell BA3.out 3
                have c4 : (w2.alloc (.cells #[.int .i64 base, .int .i64 sp, .int .i64 7, .int .i64 epoch, .int .i64 seq, .slice none 0 0] 31)).cell? ⟨w2.heap.size, 4, none⟩ = some (.int .i64 seq) := block_cell BA3.out 4
                have c5 : (w2.alloc (.cells #[.int .i64 base, .int .i64 sp, .int .i64 7, .int .i64 epoch, .int .i64 seq, .slice none 0 0] 31)).cell? ⟨w2.heap.size, 5, none⟩ = some (.slice none 0 0) := block_cell BA3.out 5
                have clt := block_lt BA3.out
                go_wp2_with fail
                generalize w2.heap.size = bb at BA3 PF3 HNB c0 c1 c2 c3 c4 c5 clt ⊢
                generalize (w2.alloc (.cells #[.int .i64 base, .int .i64 sp, .int .i64 7, .int .i64 epoch, .int .i64 seq, .slice none 0 0] 31)) = w3 at BA3 PF3 HR3 x0 hbl c0 c1 c2 c3 c4 c5 clt ⊢
                refine (check_st HR3.out.pf.st HR3.out.wf (sentC epoch seq sp base) (chk_new HR3.out.hl HR3.out.ch HQ0.out B1.out.1 B1.out.2 HSP.out.1 HSP.out.2)).mono ?_
                rintro e w4 ⟨rfl, k4⟩
                simp only [resV]
                have HR4 := Lib.hid (HR3.out.keep k4)
                have BA4 := Lib.hid (BA3.out.keep k4 (fun e => e))
                have PF4 := Lib.hid (PF3.out.keep k4)
                have x0 := k4.cell' x0 (fun e => e)
                have hbl := Nat.lt_of_lt_of_le hbl k4.size
                clear k4 HR3 BA3 PF3 c0 c1 c2 c3 c4 c5 clt
                have c0 : w4.cell? ⟨bb, 0, none⟩ = some (.int .i64 base) := block_cell BA4.out 0
                have c1 : w4.cell? ⟨bb, 1, none⟩ = some (.int .i64 sp) := block_cell BA4.out 1
                have c2 : w4.cell? ⟨bb, 2, none⟩ = some (.int .i64 7) := block_cell BA4.out 2
                have c3 : w4.cell? ⟨bb, 3, none⟩ = some (.int .i64 epoch) := block_cell BA4.out 3
                have c4 : w4.cell? ⟨bb, 4, none⟩ = some (.int .i64 seq) := block_cell BA4.out 4
                have c5 : w4.cell? ⟨bb, 5, none⟩ = some (.slice none 0 0) := block_cell BA4.out 5
                have clt := block_lt BA4.out
                have hA : (w4.alloc (.cells #[.int .i64 base, .int .i64 sp, .int .i64 7, .int .i64 epoch, .int .i64 seq, .slice none 0 0] 31)).heap[w4.heap.size]? = some (.cells #[.int .i64 base, .int .i64 sp, .int .i64 7, .int .i64 epoch, .int .i64 seq, .slice none 0 0] 31 (0, 0)) := heap_new _ _ _ rfl
                have fr := block_free hA 4
                have la := block_lt hA
                have a4 : (w4.alloc (.cells #[.int .i64 base, .int .i64 sp, .int .i64 7, .int .i64 epoch, .int .i64 seq, .slice none 0 0] 31)).cell? ⟨w4.heap.size, 4, none⟩ = some (.int .i64 seq) := block_cell hA 4
                have hk5 : K0 w4 (w4.alloc (.cells #[.int .i64 base, .int .i64 sp, .int .i64 7, .int .i64 epoch, .int .i64 (seq + 51), .slice none 0 0] 31)) := (Keeps.refl _ _).alloc _
                have HR5 := Lib.hid (HR4.out.keep hk5)
                have BA5 := Lib.hid (BA4.out.keep hk5 (fun e => e))
                have PF5 := Lib.hid (PF4.out.keep hk5)
                have x0 := hk5.cell' x0 (fun e => e)
                have hbl := Nat.lt_of_lt_of_le hbl hk5.size
                clear hA hk5 HR4 BA4 PF4
                go_wp2_with fail
                clear fr la a4 c0 c1 c2 c3 c4 c5 clt
                generalize (w4.alloc (.cells #[.int .i64 base, .int .i64 sp, .int .i64 7, .int .i64 epoch, .int .i64 (seq + 51), .slice none 0 0] 31)) = w5 at BA5 PF5 HR5 x0 hbl ⊢
                refine (check_st HR5.out.pf.st HR5.out.wf (sentC epoch (seq + 51) sp base) (chk_gap HR5.out.hl HR5.out.ch HQ0.out B1.out.1 B1.out.2 HSP.out.1 HSP.out.2)).mono ?_
                rintro e w6 ⟨rfl, k6⟩
                simp only [resV]
                have HR6 := Lib.hid (HR5.out.keep k6)
                have BA6 := Lib.hid (BA5.out.keep k6 (fun e => e))
                have PF6 := Lib.hid (PF5.out.keep k6)
                have x0 := k6.cell' x0 (fun e => e)
                have hbl := Nat.lt_of_lt_of_le hbl k6.size
                clear k6 HR5 BA5 PF5
                have c0 : w6.cell? ⟨bb, 0, none⟩ = some (.int .i64 base) := block_cell BA6.out 0
                have c1 : w6.cell? ⟨bb, 1, none⟩ = some (.int .i64 sp) := block_cell BA6.out 1
                have c2 : w6.cell? ⟨bb, 2, none⟩ = some (.int .i64 7) := block_cell BA6.out 2
                have c3 : w6.cell? ⟨bb, 3, none⟩ = some (.int .i64 epoch) := block_cell BA6.out 3
                have c4 : w6.cell? ⟨bb, 4, none⟩ = some (.int .i64 seq) := block_cell BA6.out 4
                have c5 : w6.cell? ⟨bb, 5, none⟩ = some (.slice none 0 0) := block_cell BA6.out 5
                have clt := block_lt BA6.out
                go_wp2_with fail
                refine (note_pf (M' := noteM M (sentC epoch seq sp base)) PF6.out (fun j e => e.elim (fun e => (HR6.out.row.lt j e).2) (fun e => by rw [e]; exact block_lt BA6.out)) HR6.out.wf (sentC epoch seq sp base) rfl).mono ?_
                rintro e w7 ⟨rfl, p7, k7⟩
                have PF7 := Lib.hid p7
                have BA7 := Lib.hid (BA6.out.keep k7 (fun e => e.2 (.inr rfl)))
                have hown := own_keepT k7 HR6.out.row (fun j e e2 => e2.2 (.inl e))
                have hbw : b < w.heap.size := (int_row hrw.out (Keeps.refl (fun _ => False) w) k HLT.out).2
                have x0 := k7.cell' x0 (fun e => by have e1 : w.heap.size ≤ b := e.1; omega)
                have hbl := Nat.lt_of_lt_of_le hbl k7.size
                have hsz7 : w.heap.size ≤ w7.heap.size := p7.st.k0.size
                have hln : bl.length ≤ 40 := Nat.le_trans HR6.out.ch.len HQ0.out
                clear p7 k7 PF6 BA6 c0 c1 c2 c3 c4 c5 clt
                have c0 : w7.cell? ⟨bb, 0, none⟩ = some (.int .i64 base) := block_cell BA7.out 0
                have c1 : w7.cell? ⟨bb, 1, none⟩ = some (.int .i64 sp) := block_cell BA7.out 1
                have c2 : w7.cell? ⟨bb, 2, none⟩ = some (.int .i64 7) := block_cell BA7.out 2
                have c3 : w7.cell? ⟨bb, 3, none⟩ = some (.int .i64 epoch) := block_cell BA7.out 3
                have c4 : w7.cell? ⟨bb, 4, none⟩ = some (.int .i64 seq) := block_cell BA7.out 4
                have c5 : w7.cell? ⟨bb, 5, none⟩ = some (.slice none 0 0) := block_cell BA7.out 5
                have clt := block_lt BA7.out
                go_wp2_with (at_builtin; refine wpList_app1 rfl rfl Try.underlying49 infoBatch rfl (by decide) rfl (hown.alloc _) rfl (heap_new _ _ _ rfl) rfl rfl (by omega) (by simp; omega) ?_; intro g2 cap2 w8 hA; have hgr := grown_alloc hA.grown; have hk8 : Keeps (fun j => w.heap.size ≤ j) w7 w8 := (Keeps.refl (fun j => w.heap.size ≤ j) w7).grown hgr (fun j e _ => (hown.lt j e).1); have x8 := hk8.cell' x0 (fun e => by have e1 : w.heap.size ≤ b := e; omega); have hbl8 := Nat.lt_of_lt_of_le hbl hk8.size; have HA := Lib.hid hA; have HGR := Lib.hid hgr; clear hA hgr hk8)
                have GR8 : Hid (GRel w w8 pb (.slice (some ⟨g2, 0, none⟩) (bl.length + 1) cap2) (noteM M (sentC epoch seq sp base)) (bl ++ [sentC epoch seq sp base]) epoch (seq + sp) (base + sp + k) (k + 1)) :=
                  HR6.out.add (bb := bb) B1.out.1 B1.out.2 HSP.out.1 HSP.out.2 HK40.out PF7.out HA.out.own HGR.out (fun j e => by
                    cases e
                    rcases HA.out.at_ with e | e
                    · exact .inl e
                    · exact .inr (by show w7.heap.size ≤ g2; rw [e]; simp))
                have BA8 : Hid (BatAt w8 bb (sentC epoch seq sp base)) := (HGR.out.block bb (block_lt BA7.out) (fun e => Nat.lt_irrefl _ (HNB.out bb e.symm))).trans BA7.out
                obtain ⟨bl2, hbl2⟩ : ∃ bl2, bl2 = bl ++ [sentC epoch seq sp base] := ⟨_, rfl⟩
                have hl2 : bl2.length = bl.length + 1 := by rw [hbl2]; simp
                have hnil2 : Hid (bl2 ≠ []) := fun e => by rw [e] at hl2; simp at hl2
                rw [← hbl2, ← hl2] at GR8
                rw [← hl2]
                generalize noteM M (sentC epoch seq sp base) = M2 at GR8
                clear hbl2 HA HGR PF7 BA7 HR6 HNB hown hbl hbl8 x0 x8 c0 c1 c2 c3 c4 c5 clt
                go_loopw [18] (fun kv wq => ∃ j : Nat, kv = .int .i64 j ∧ bl2.length ≤ j + 5 ∧ j ≤ bl2.length ∧ GRel w wq pb (.slice (some ⟨g2, 0, none⟩) bl2.length cap2) M2 bl2 epoch (seq + sp) (base + sp + k) (k + 1) ∧ BatAt wq bb (sentC epoch seq sp base)) (fun kv _ => bl2.length - (intOf kv).toNat)
                case atStart => exact ⟨bl2.length - 5, by congr 1; omega, by omega, by omega, GR8.out, BA8.out⟩
                case round =>
                  obtain ⟨j, rfl, hj5, hj, hg, hbb⟩ := hrel
                  obtain ⟨wi, rfl⟩ : ∃ wi : World, wi = wr := ⟨_, rfl⟩
                  have GI := Lib.hid hg
                  have BI := Lib.hid hbb
                  clear GR8 BA8 hg hbb
                  by_cases hjl : j < bl2.length
                  · obtain ⟨y0, y1, y2, y3, y4, y5, ylt⟩ := row_cells GI.out.row hjl
                    have CK := chk_again GI.out.hl GI.out.ch HK40.out B1.out.1 B1.out.2 hjl hj5
                    generalize bl2[j] = bt at y0 y1 y2 y3 y4 y5 CK
                    have HCK := Lib.hid CK
                    have j0 : (0 : Int) ≤ j := by omega
                    have j1 : (j : Int) < bl2.length := by omega
                    clear CK
                    go_wp2_with fail
                    refine (check_st GI.out.pf.st GI.out.wf bt HCK.out).mono ?_
                    rintro e wj ⟨rfl, kj⟩
                    simp only [resV]
                    have GJ := Lib.hid (GI.out.keep kj)
                    have BJ := Lib.hid (BI.out.keep kj (fun e => e))
                    have z0 := kj.cell' y0 (fun e => e)
                    have zlt := Nat.lt_of_lt_of_le ylt kj.size
                    clear kj y0 y1 y2 y3 y4 y5 ylt GI BI
                    go_wp2
                    go_roundw
                    case rel => exact ⟨j + 1, by go_num, by omega, by omega, GJ.out, BJ.out⟩
                    case measure => simp [intOf]; omega
                  · obtain rfl : j = bl2.length := by omega
                    by_cases h6 : 5 < (bl2.length : Int)
                    · obtain ⟨n6, hn6⟩ : ∃ n6, bl2.length = n6 + 6 := ⟨bl2.length - 6, by omega⟩
                      have hi6 : n6 < bl2.length := by omega
                      obtain ⟨y0, y1, y2, y3, y4, y5, ylt⟩ := row_cells GI.out.row hi6
                      have HCK := Lib.hid (chk_out (i := n6) GI.out.hl GI.out.ch HK40.out B1.out.1 B1.out.2 (by omega))
                      have HCK2 : Hid (checkR M2 bl2[n6] = (0, false, 9)) := HCK.out
                      clear HCK
                      generalize bl2[n6] = bt at y0 y1 y2 y3 y4 y5 HCK2
                      rw [hn6]
                      go_wp2_with fail
                      refine (check_st GI.out.pf.st GI.out.wf bt HCK2.out).mono ?_
                      rintro e wk ⟨rfl, kk⟩
                      simp only [resV]
                      have GK := Lib.hid (GI.out.keep kk)
                      have BK := Lib.hid (BI.out.keep kk (fun e => e))
                      clear kk y0 y1 y2 y3 y4 y5 ylt GI BI
                      have c0 : wk.cell? ⟨bb, 0, none⟩ = some (.int .i64 base) := block_cell BK.out 0
                      have c1 : wk.cell? ⟨bb, 1, none⟩ = some (.int .i64 sp) := block_cell BK.out 1
                      have c2 : wk.cell? ⟨bb, 2, none⟩ = some (.int .i64 7) := block_cell BK.out 2
                      have c3 : wk.cell? ⟨bb, 3, none⟩ = some (.int .i64 epoch) := block_cell BK.out 3
                      have c4 : wk.cell? ⟨bb, 4, none⟩ = some (.int .i64 seq) := block_cell BK.out 4
                      have c5 : wk.cell? ⟨bb, 5, none⟩ = some (.slice none 0 0) := block_cell BK.out 5
                      have clt := block_lt BK.out
                      by_cases he : 0 < epoch
                      · have hA : (wk.alloc (.cells #[.int .i64 base, .int .i64 sp, .int .i64 7, .int .i64 epoch, .int .i64 seq, .slice none 0 0] 31)).heap[wk.heap.size]? = some (.cells #[.int .i64 base, .int .i64 sp, .int .i64 7, .int .i64 epoch, .int .i64 seq, .slice none 0 0] 31 (0, 0)) := heap_new _ _ _ rfl
                        have fr := block_free hA 3
                        have la := block_lt hA
                        have hko : K0 wk (wk.alloc (.cells #[.int .i64 base, .int .i64 sp, .int .i64 7, .int .i64 (epoch - 1), .int .i64 seq, .slice none 0 0] 31)) := (Keeps.refl _ _).alloc _
                        have GO := Lib.hid (GK.out.keep hko)
                        clear hA hko
                        go_wp2_with fail
                        clear fr la
                        generalize (wk.alloc (.cells #[.int .i64 base, .int .i64 sp, .int .i64 7, .int .i64 (epoch - 1), .int .i64 seq, .slice none 0 0] 31)) = wz at GO ⊢
                        refine (check_st GO.out.pf.st GO.out.wf (sentC (epoch - 1) seq sp base) (chk_old GO.out.hl hnil2.out (by omega) B1.out.2 hsq.1 (by omega) HSP.out.1 HSP.out.2)).mono ?_
                        rintro e wy ⟨rfl, ky⟩
                        simp only [resV]
                        have GY := Lib.hid (GO.out.keep ky)
                        clear ky c0 c1 c2 c3 c4 c5 clt
                        go_wp2
                        go_roundw
                        case rel => exact ⟨k + 1, seq + sp, base + sp + k, M2, bl2, some ⟨g2, 0, none⟩, cap2, rfl, rfl, by first | rfl | (rw [hl2]; done) | (rw [hn6]; done), by go_num, by omega, GY.out⟩
                        case measure => simp [intOf]; omega
                      · have GY := GK
                        clear c0 c1 c2 c3 c4 c5 clt
                        go_wp2
                        go_roundw
                        case rel => exact ⟨k + 1, seq + sp, base + sp + k, M2, bl2, some ⟨g2, 0, none⟩, cap2, rfl, rfl, by first | rfl | (rw [hl2]; done) | (rw [hn6]; done), by go_num, by omega, GY.out⟩
                        case measure => simp [intOf]; omega
                    · have c0 : wi.cell? ⟨bb, 0, none⟩ = some (.int .i64 base) := block_cell BI.out 0
                      have c1 : wi.cell? ⟨bb, 1, none⟩ = some (.int .i64 sp) := block_cell BI.out 1
                      have c2 : wi.cell? ⟨bb, 2, none⟩ = some (.int .i64 7) := block_cell BI.out 2
                      have c3 : wi.cell? ⟨bb, 3, none⟩ = some (.int .i64 epoch) := block_cell BI.out 3
                      have c4 : wi.cell? ⟨bb, 4, none⟩ = some (.int .i64 seq) := block_cell BI.out 4
                      have c5 : wi.cell? ⟨bb, 5, none⟩ = some (.slice none 0 0) := block_cell BI.out 5
                      have clt := block_lt BI.out
                      by_cases he : 0 < epoch
                      · have hA : (wi.alloc (.cells #[.int .i64 base, .int .i64 sp, .int .i64 7, .int .i64 epoch, .int .i64 seq, .slice none 0 0] 31)).heap[wi.heap.size]? = some (.cells #[.int .i64 base, .int .i64 sp, .int .i64 7, .int .i64 epoch, .int .i64 seq, .slice none 0 0] 31 (0, 0)) := heap_new _ _ _ rfl
                        have fr := block_free hA 3
                        have la := block_lt hA
                        have hko : K0 wi (wi.alloc (.cells #[.int .i64 base, .int .i64 sp, .int .i64 7, .int .i64 (epoch - 1), .int .i64 seq, .slice none 0 0] 31)) := (Keeps.refl _ _).alloc _
                        have GO := Lib.hid (GI.out.keep hko)
                        clear hA hko
                        go_wp2_with fail
                        clear fr la
                        generalize (wi.alloc (.cells #[.int .i64 base, .int .i64 sp, .int .i64 7, .int .i64 (epoch - 1), .int .i64 seq, .slice none 0 0] 31)) = wz at GO ⊢
                        refine (check_st GO.out.pf.st GO.out.wf (sentC (epoch - 1) seq sp base) (chk_old GO.out.hl hnil2.out (by omega) B1.out.2 hsq.1 (by omega) HSP.out.1 HSP.out.2)).mono ?_
                        rintro e wy ⟨rfl, ky⟩
                        simp only [resV]
                        have GY := Lib.hid (GO.out.keep ky)
                        clear ky c0 c1 c2 c3 c4 c5 clt
                        go_wp2
                        go_roundw
                        case rel => exact ⟨k + 1, seq + sp, base + sp + k, M2, bl2, some ⟨g2, 0, none⟩, cap2, rfl, rfl, by first | rfl | (rw [hl2]; done) | (rw [hn6]; done), by go_num, by omega, GY.out⟩
                        case measure => simp [intOf]; omega
                      · have GY := GI
                        clear c0 c1 c2 c3 c4 c5 clt
                        go_wp2
                        go_roundw
                        case rel => exact ⟨k + 1, seq + sp, base + sp + k, M2, bl2, some ⟨g2, 0, none⟩, cap2, rfl, rfl, by first | rfl | (rw [hl2]; done) | (rw [hn6]; done), by go_num, by omega, GY.out⟩
                        case measure => simp [intOf]; omega
          · obtain rfl : k = l.length := by omega
            have HR := Lib.hid hr
            clear hr hlt
            go_wp2_with fail
            refine (live_any _).mono ?_
            rintro e w2 ⟨rfl, k2⟩
            have HF := Lib.hid (K0.tr HR.out.pf.st.k0 k2)
            clear k2
            go_wp2
            go_ret
            exact ⟨rfl, HF.out⟩
end Go.Proofs.Ytbjpifipjcfhkaa
