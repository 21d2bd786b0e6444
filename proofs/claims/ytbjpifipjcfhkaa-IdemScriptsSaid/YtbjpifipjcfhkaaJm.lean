/-
  Parse: the program's.
-/
import Derived.Test.YtbjpifipjcfhkaaJj
import Derived.IntWalk
namespace Go.Proofs.Ytbjpifipjcfhkaa
open Go.RowKit Fx

section
variable {w0 w w' : World} {pb mb : Nat} {M : List (Int × HeardC)} {L : List (Int × (Nat × HeardC))}
/-- A producer anew: a block that is none of theirs. -/
theorem PAt.putF (h : PAt w0 w pb M mb L) (s : Int) {b : Nat} {x : HeardC} (hn1 : b ≠ pb) (hn2 : b ≠ mb) (hn3 : ∀ t p, aget L t = some p → p.1 ≠ b) (hnew : w0.heap.size ≤ b) (hf : HAt w b x)
    {o : Obj} (hm : MapAt (.int .i64) (setObjAt w mb o) mb (aput (avals hptr L) s (hptr (b, x)))) : PAt w0 (setObjAt w mb o) pb (aput M s x) mb (aput L s (b, x)) := by
  have hp : Keeps (fun k => k = mb) w (setObjAt w mb o) := Keeps.setObj (S := fun k => k = mb) (Keeps.refl _ _) (fun _ => rfl) _
  have h1 := block_lt h.blk
  refine ⟨h.k0.trans hp (fun k hk e => by have := h.new.2; omega), (hp.block _ h1 h.ne).trans h.blk, ?_, ?_, fun t p e2 => ?_, fun t1 t2 p q e1 e2 hne => ?_, h.ne, h.new, fun t p e2 => ?_, h.keys.put _ _⟩
  · rw [← aput_amap (fun p : Nat × HeardC => p.2) L s (b, x), h.core]
  · rw [← aput_avals]
    exact hm
  · rw [aget_aput] at e2
    split at e2
    · cases e2
      exact (setObjAt_other _ _ hn2).trans hf
    · exact (hp.block _ (block_lt (h.her t p e2)) (h.fnew t p e2).2.2).trans (h.her t p e2)
  · rw [aget_aput] at e1 e2
    split at e1
    · split at e2
      · rename_i h1 h2; exact absurd (h1.symm.trans h2) hne
      · cases e1
        exact fun e => hn3 t2 q e2 e.symm
    · split at e2
      · cases e2
        exact hn3 t1 p e1
      · exact h.apart t1 t2 _ _ e1 e2 hne
  · rw [aget_aput] at e2
    split at e2
    · cases e2
      exact ⟨hnew, hn1, hn2⟩
    · exact h.fnew t p e2
end
def ParsePI (w : World) (s : ByteArray) (e : Ending) (w' : World) : Prop :=
  (pzE s ≠ 0 ∧ e = .returned (.tuple #[.pointer none, .int .i64 (pzE s)]) ∧ K0 w w') ∨
  (pzE s = 0 ∧ ∃ pb, e = .returned (.tuple #[.pointer (some ⟨pb, 0, none⟩), .int .i64 0]) ∧ PSt w w' pb (mapI (pzF s).l))
theorem PF.k0 {w0 w : World} {F : Nat → Prop} {pb : Nat} {M : List (Int × HeardC)} (h : PF w0 w F pb M) : K0 w0 w := h.st.k0
/-- Reader and producers in one world. -/
structure PPt (w wr : World) (rb pb : Nat) (s : ByteArray) (p : PI) : Prop where
  rd : Rr 77 wr rb s p.a p.e
  pf : PF w wr (fun k => k = rb) pb (mapI p.l)
def PRelI (w : World) (rb pb : Nat) (s : ByteArray) (F : PI) (i idv : Value) (wr : World) : Prop :=
  ∃ (n : Int) (p : PI), i = .int .i64 n ∧ idv = .int .i64 p.id ∧ orun s n.toNat p = F ∧ p.a ≤ s.size ∧ (p.e = 0 → -1 ≤ p.id ∧ p.id ≤ 1073741824 ∧ n ≤ 10000) ∧ PPt w wr rb pb s p
theorem o3T_le {s : ByteArray} {p : PI} (h : p.a ≤ s.size) : o1T s p ≤ s.size ∧ o2T s p ≤ s.size ∧ o3T s p ≤ s.size := by
  have h1 : o1T s p ≤ s.size := nuT_le h
  have h2 : o2T s p ≤ s.size := nuT_le h1
  exact ⟨h1, h2, nuT_le h2⟩
theorem i3T_le {s : ByteArray} {p : IH} (h : p.a ≤ s.size) : i1T s p ≤ s.size ∧ i2T s p ≤ s.size ∧ i3T s p ≤ s.size := by
  have h1 : i1T s p ≤ s.size := nuT_le h
  have h2 : i2T s p ≤ s.size := nuT_le h1
  exact ⟨h1, h2, nuT_le h2⟩
theorem irun_le (s : ByteArray) : ∀ (k : Nat) {p : IH}, p.a ≤ s.size → (irun s k p).a ≤ s.size
  | 0, _, h => h
  | k + 1, p, h => by
    rw [irun]
    split
    · exact irun_le s k (i3T_le h).2.2
    · exact h
theorem irun_ok (s : ByteArray) : ∀ (k : Nat) {p : IH}, HOk p.h → HOk (irun s k p).h
  | 0, _, h => h
  | k + 1, p, h => by
    rw [irun]
    split
    · exact irun_ok s k (addH_ok h _)
    · exact h
set_option maxRecDepth 100000 in
set_option maxHeartbeats 16000000 in
theorem parse_any (s : ByteArray) (w : World) (hs : s.size ≤ 9223372036854775807) : Calls Try.prog 16 #[.string s] w (ParsePI w s) := by
  have hr0 : Rr 77 (w.alloc (.cells #[.string s, .int .i64 0, .int .i64 0] 77)) w.heap.size s 0 0 := heap_new _ _ _ rfl
  have HR0 := Lib.hid hr0
  have hrb : Hid (∃ rb, rb = w.heap.size) := ⟨_, rfl⟩
  obtain ⟨rb, hrb⟩ := hrb.out
  rw [← hrb] at HR0
  have HRB := Lib.hid hrb
  clear hrb hr0
  go_enter Try.func16, Try.ntmps16
  go_wp2_with fail
  refine (pnew_any _).mono ?_
  rintro e w1 ⟨pb, rfl, s1⟩
  have HR1 := Lib.hid (HR0.out.keep s1.k0 (fun e => e))
  have HP1 : Hid (PF w w1 (fun k => k = rb) pb []) := by
    obtain ⟨mb, L, h⟩ := s1
    have hz : (w.alloc (.cells #[.string s, .int .i64 0, .int .i64 0] 77)).heap.size = w.heap.size + 1 := by simp
    have h1 := h.new
    rw [hz] at h1
    have hb := HRB.out
    refine ⟨mb, L, ⟨K0.tr ((Keeps.refl _ _).alloc _) h.k0, h.blk, h.core, h.map, h.her, h.apart, h.ne, ⟨by omega, by omega⟩, fun t p e => ?_, h.keys⟩, fun e => ?_, fun e => ?_, fun t p e e2 => ?_, fun k e => ?_⟩
    · have := h.fnew t p e
      rw [hz] at this
      exact ⟨by omega, this.2⟩
    · have e : pb = rb := e; omega
    · have e : mb = rb := e; omega
    · have := (h.fnew t p e).1
      rw [hz] at this
      have e2 : p.1 = rb := e2
      omega
    · have e : k = rb := e; omega
  clear s1
  rw [← HRB.out]
  have b0 : (0 : Int) ≤ 9223372036854775807 := by omega
  go_wp2_with fail
  refine (number_any 0 10000 HR1.out hs b0).mono ?_
  rintro e w2 ⟨rfl, hr2, hk2⟩
  have HPP0 : Hid (PPt w w2 rb pb s (pz0 s)) := ⟨hr2, HP1.out.keepS hk2 (fun k _ e => e)⟩
  have hcc : nuN s 0 0 = pzC s := rfl
  rw [hcc]
  have HPE : Hid (pzE s = wE (pzF s).e (decide ((pzF s).a = s.size))) := rfl
  have HFF1 : Hid (pzF s = orun s (pzC s).toNat (pz0 s)) := rfl
  have HZ := Lib.hid (@pz0_zero s)
  have HA0 : Hid ((pz0 s).a ≤ s.size) := by show nuT s 0 0 ≤ s.size; exact nuT_le (by omega)
  have HID0 : Hid ((pz0 s).id = -1) := rfl
  generalize hFg : pzF s = F at HPE HFF1
  have HFF2 : Hid (pzF s = F) := hFg
  generalize pz0 s = p0 at HPP0 HFF1 HZ HA0 HID0
  generalize pzC s = n at HFF1 HZ ⊢
  clear hr2 hk2 hcc hFg HR0 HR1 HP1
  go_wp2
  go_loopw [7, 6] (PRelI w rb pb s F) (fun i _ _ => (intOf i).toNat)
  case atStart => exact ⟨n, p0, rfl, by rw [HID0.out], HFF1.out.symm, HA0.out, fun e => ⟨by rw [HID0.out]; omega, by rw [HID0.out]; omega, (HZ.out e).2⟩, HPP0.out⟩
  case round =>
    obtain ⟨n, p, rfl, rfl, hF, ha, hz, hp⟩ := hrel
    have HP := Lib.hid hp
    by_cases hgo : 0 < n ∧ p.e = 0
    · obtain ⟨hn, he⟩ := hgo
      obtain ⟨z1, z2, z3⟩ := hz he
      rw [show n.toNat = (n - 1).toNat + 1 by omega, orun, if_pos he] at hF
      have HF := Lib.hid hF
      have HZ9 : Hid (n - 1 ≤ 10000) := by show n - 1 ≤ 10000; omega
      have HNN := Lib.hid hn
      obtain ⟨a, e, id, l⟩ := p
      obtain rfl : e = 0 := he
      have hr : Rr 77 wr rb s a 0 := hp.rd
      have HPF := Lib.hid hp.pf
      obtain ⟨r0, r1, r2, r3, r4, r5⟩ := hr.all
      have ha : a ≤ s.size := ha
      obtain ⟨b1, b2, b3⟩ := o3T_le (p := ⟨a, 0, id, l⟩) ha
      have z1 : -1 ≤ id := z1
      have z2 : id ≤ 1073741824 := z2
      have nn1 : IntKind.i64.wrap (id + 1) = id + 1 := IntWalk.i64_in _ (by omega)
      have nn2 : wrap64 (id + 1) = id + 1 := by unfold wrap64; omega
      clear hp hF hz
      go_wp2_with fail
      have HC1 : Calls Try.prog 31 #[.pointer (some ⟨rb, 0, none⟩), .int .i64 (id + 1), .int .i64 1073741824] wr (RrP 77 wr rb s (.int .i64 (o1N s ⟨a, 0, id, l⟩)) (o1T s ⟨a, 0, id, l⟩) (o1E s ⟨a, 0, id, l⟩)) := number_any (id + 1) 1073741824 hr hs (Int.le_trans ha (by omega))
      refine HC1.mono ?_
      clear HC1
      rintro e w1 ⟨rfl, hr1, hk1⟩
      go_wp2_with fail
      have HC2 : Calls Try.prog 31 #[.pointer (some ⟨rb, 0, none⟩), .int .i64 0, .int .i64 32768] w1 (RrP 77 w1 rb s (.int .i64 (o2N s ⟨a, 0, id, l⟩)) (o2T s ⟨a, 0, id, l⟩) (o2E s ⟨a, 0, id, l⟩)) := number_any 0 32768 hr1 hs (Int.le_trans b1 (by omega))
      refine HC2.mono ?_
      clear HC2
      rintro e w2 ⟨rfl, hr2, hk2⟩
      have hk12 : Keeps (fun k => k = rb) wr w2 := hk1.trans hk2 (fun _ _ e => e)
      have hb0 : HAt (w2.alloc (.cells (hcells (newHd (o2N s ⟨a, 0, id, l⟩))) 65)) w2.heap.size (newHd (o2N s ⟨a, 0, id, l⟩)) := heap_new _ _ _ rfl
      have HH0 := Lib.hid hb0
      have hr2a : Rr 77 (w2.alloc (.cells (hcells (newHd (o2N s ⟨a, 0, id, l⟩))) 65)) rb s (o2T s ⟨a, 0, id, l⟩) (o2E s ⟨a, 0, id, l⟩) := hr2.keep (S := fun _ => False) ((Keeps.refl _ _).alloc _) (fun e => e)
      have HR2A := Lib.hid hr2a
      have HPF2 : Hid (PF w (w2.alloc (.cells (hcells (newHd (o2N s ⟨a, 0, id, l⟩))) 65)) (fun k => k = rb ∨ k = w2.heap.size) pb (mapI l)) := ((HPF.out.keepS hk12 (fun k _ e => e)).more (fun k e => e.imp (fun e => e) (fun e => by rw [e]; exact Nat.le_refl _))).keep ((Keeps.refl _ _).alloc _)
      have HNE : Hid (¬ w2.heap.size = rb) := by have := block_lt hr2; show ¬ _; omega
      clear hb0 hr2a hk1 hk2 hk12 hr1 hr r0 r1 r2 r3 r4 r5
      have hhc : hcells (newHd (o2N s ⟨a, 0, id, l⟩)) = #[.int .i64 (o2N s ⟨a, 0, id, l⟩), .int .i64 0, .int .i64 0, .int .i64 0, .int .i64 0, .int .i64 0, .int .i64 0, .int .i64 0, .int .i64 0, .int .i64 0, .int .i64 0, .int .i64 0, .int .i64 0, .int .i64 0, .int .i64 0, .int .i64 0, .int .i64 0, .int .i64 0] := rfl
      rw [hhc] at HH0 HR2A HPF2
      clear hhc hr2
      go_wp2_with fail
      generalize hWA : w2.alloc _ = WA at HH0 HR2A HPF2 ⊢
      generalize w2.heap.size = hb at HH0 HPF2 HNE ⊢
      have HC3 : Calls Try.prog 31 #[.pointer (some ⟨rb, 0, none⟩), .int .i64 1, .int .i64 5] WA (RrP 77 WA rb s (.int .i64 (o3N s ⟨a, 0, id, l⟩)) (o3T s ⟨a, 0, id, l⟩) (o3E s ⟨a, 0, id, l⟩)) := number_any 1 5 HR2A.out hs (Int.le_trans b2 (by omega))
      refine HC3.mono ?_
      clear HC3
      rintro e w3 ⟨rfl, hr3, hk3⟩
      have HIN0 : Hid (Rr 77 w3 rb s (oBeg s ⟨a, 0, id, l⟩).a (oBeg s ⟨a, 0, id, l⟩).e ∧ HAt w3 hb (oBeg s ⟨a, 0, id, l⟩).h ∧ PF w w3 (fun k => k = rb ∨ k = hb) pb (mapI l)) := ⟨hr3, (hk3.block _ (block_lt HH0.out) HNE.out).trans HH0.out, HPF2.out.keepS hk3 (fun k _ e => .inl e)⟩
      have HIR : Hid (oIn s ⟨a, 0, id, l⟩ = irun s (o3N s ⟨a, 0, id, l⟩).toNat (oBeg s ⟨a, 0, id, l⟩)) := rfl
      have HB3 : Hid ((oBeg s ⟨a, 0, id, l⟩).a ≤ s.size) := b3
      have HOB : Hid (HOk (oBeg s ⟨a, 0, id, l⟩).h) := newHd_ok _
      have HZK : Hid ((oBeg s ⟨a, 0, id, l⟩).e = 0 → o3N s ⟨a, 0, id, l⟩ ≤ 5) := by
        show _ → _
        intro h3
        obtain ⟨_, _, _, hb3, hn3, _⟩ := nuE_zero (show nuE s (o2T s ⟨a, 0, id, l⟩) (o2E s ⟨a, 0, id, l⟩) 1 5 = 0 from h3)
        rw [show o3N s ⟨a, 0, id, l⟩ = vgetN s (o2T s ⟨a, 0, id, l⟩) from hn3]
        exact hb3
      have HOST : Hid (ostep s ⟨a, 0, id, l⟩ = ⟨(oIn s ⟨a, 0, id, l⟩).a, (oIn s ⟨a, 0, id, l⟩).e, o1N s ⟨a, 0, id, l⟩, l ++ [(o1N s ⟨a, 0, id, l⟩, (oIn s ⟨a, 0, id, l⟩).h)]⟩) := rfl
      have HO1 : Hid (o1E s ⟨a, 0, id, l⟩ = 0 → -1 ≤ o1N s ⟨a, 0, id, l⟩ ∧ o1N s ⟨a, 0, id, l⟩ ≤ 1073741824) := by
        show _ → _
        intro h1
        obtain ⟨_, _, ha1, hb1, hn1, _⟩ := nuE_zero (show nuE s a 0 (id + 1) 1073741824 = 0 from h1)
        have : o1N s ⟨a, 0, id, l⟩ = vgetN s a := hn1
        omega
      have HO2 : Hid ((oIn s ⟨a, 0, id, l⟩).e = 0 → o1E s ⟨a, 0, id, l⟩ = 0) := by
        show _ → _
        intro h0
        have h3 : o3E s ⟨a, 0, id, l⟩ = 0 := by
          by_cases h9 : o3E s ⟨a, 0, id, l⟩ = 0
          · exact h9
          · have h8 : (irun s (o3N s ⟨a, 0, id, l⟩).toNat (oBeg s ⟨a, 0, id, l⟩)).e = 0 := h0
            rw [irun_stop s _ (p := oBeg s ⟨a, 0, id, l⟩) h9] at h8
            exact h8
        exact (nuE_zero (show nuE s (o1T s ⟨a, 0, id, l⟩) (o1E s ⟨a, 0, id, l⟩) 0 32768 = 0 from (nuE_zero (show nuE s (o2T s ⟨a, 0, id, l⟩) (o2E s ⟨a, 0, id, l⟩) 1 5 = 0 from h3)).1)).1
      clear hr3 hk3 HH0 HR2A HPF2 hWA b1 b2 b3
      generalize oBeg s ⟨a, 0, id, l⟩ = q0 at HIN0 HIR HB3 HOB HZK
      generalize o3N s ⟨a, 0, id, l⟩ = kn at HIR HZK ⊢
      generalize ostep s ⟨a, 0, id, l⟩ = OS at HF HOST
      generalize oIn s ⟨a, 0, id, l⟩ = FI at HIR HOST HO2
      generalize o1N s ⟨a, 0, id, l⟩ = nid at HOST HO1 ⊢
      go_wp2
      go_loopw [9] (fun i wx => ∃ (m : Int) (q : IH), i = .int .i64 m ∧ irun s m.toNat q = FI ∧ q.a ≤ s.size ∧ HOk q.h ∧ (q.e = 0 → m ≤ 5) ∧ Rr 77 wx rb s q.a q.e ∧ HAt wx hb q.h ∧ PF w wx (fun k => k = rb ∨ k = hb) pb (mapI l)) (fun i _ => (intOf i).toNat)
      case atStart => exact ⟨kn, q0, rfl, HIR.out.symm, HB3.out, HOB.out, HZK.out, HIN0.out⟩
      case round =>
        obtain ⟨wo, rfl⟩ : ∃ wo : World, wo = wr := ⟨_, rfl⟩
        obtain ⟨m, q, rfl, hI, hqa, hok, hm5, hrq, hhq, hpq⟩ := hrel
        have HQP := Lib.hid hpq
        have HQH := Lib.hid hhq
        have HQO := Lib.hid hok
        have HI := Lib.hid hI
        by_cases hgi : 0 < m ∧ q.e = 0
        · obtain ⟨hmp, hqe⟩ := hgi
          have hm6 := hm5 hqe
          have HI2 : Hid (irun s (m - 1).toNat (istep s q) = FI) := by
            show _ = _
            rw [← HI.out, show m.toNat = (m - 1).toNat + 1 by omega, irun, if_pos hqe]
          obtain ⟨b1, b2, b3⟩ := i3T_le hqa
          have HB9 := Lib.hid b3
          have HM9 : Hid (m - 1 ≤ 5) := by show m - 1 ≤ 5; omega
          have HMP := Lib.hid hmp
          obtain ⟨r0, r1, r2, r3, r4, r5⟩ := hrq.all
          rw [hqe] at r2
          clear hpq hhq hok hI hm5
          go_wp2_with fail
          have HC1 : Calls Try.prog 31 #[.pointer (some ⟨rb, 0, none⟩), .int .i64 0, .int .i64 1073741824] wo (RrP 77 wo rb s (.int .i64 (i1N s q)) (i1T s q) (i1E s q)) := number_any 0 1073741824 hrq hs (Int.le_trans hqa (by omega))
          refine HC1.mono ?_
          clear HC1
          rintro e w4 ⟨rfl, hr4, hk4⟩
          have hr4a : Rr 77 (w4.alloc (.cells #[.int .i64 (i1N s q), .int .i64 0, .int .i64 0] 62)) rb s (i1T s q) (i1E s q) := hr4.keep (S := fun _ => False) ((Keeps.refl _ _).alloc _) (fun e => e)
          have hx0 : (w4.alloc (.cells #[.int .i64 (i1N s q), .int .i64 0, .int .i64 0] 62)).heap[w4.heap.size]? = some (.cells #[.int .i64 (i1N s q), .int .i64 0, .int .i64 0] 62 (0, 0)) := heap_new _ _ _ rfl
          have hka : Keeps (fun k => k = rb) wo (w4.alloc (.cells #[.int .i64 (i1N s q), .int .i64 0, .int .i64 0] 62)) := hk4.alloc _
          have HXN : Hid (wo.heap.size ≤ w4.heap.size ∧ rb < w4.heap.size) := ⟨hk4.size, block_lt hr4⟩
          have HKA := Lib.hid hka
          have HX0 := Lib.hid hx0
          have HR4 := Lib.hid hr4a
          clear hr4 hr4a hx0 hka hk4 r0 r1 r2 r3 r4 r5 hrq
          go_wp2_with fail
          generalize w4.alloc _ = WX at HKA HX0 HR4 ⊢
          generalize w4.heap.size = xb at HXN HX0 ⊢
          have HC2 : Calls Try.prog 31 #[.pointer (some ⟨rb, 0, none⟩), .int .i64 0, .int .i64 1099511627776] WX (RrP 77 WX rb s (.int .i64 (i2N s q)) (i2T s q) (i2E s q)) := number_any 0 1099511627776 HR4.out hs (Int.le_trans b1 (by omega))
          refine HC2.mono ?_
          clear HC2
          rintro e w5 ⟨rfl, hr5, hk5⟩
          have hnx : ¬ xb = rb := by have := HXN.out; omega
          have hx5 := (hk5.block _ (block_lt HX0.out) hnx).trans HX0.out
          have c1 := block_cell hx5 1
          have f1 := block_free hx5 1
          have l5 := block_lt hx5
          have HX6 : Hid ((w5.setCell ⟨xb, 1, none⟩ (.int .i64 (i2N s q))).heap[xb]? = some (.cells #[.int .i64 (i1N s q), .int .i64 (i2N s q), .int .i64 0] 62 (0, 0))) := setCell_block hx5 1 _
          have HR6 : Hid (Rr 77 (w5.setCell ⟨xb, 1, none⟩ (.int .i64 (i2N s q))) rb s (i2T s q) (i2E s q)) := Rr.keep hr5 ((Keeps.refl (fun k => k = xb) w5).setC 1 _ (fun _ => rfl)) (fun e => hnx e.symm)
          have HK6 : Hid (Keeps (fun k => k = rb ∨ k = xb) wo (w5.setCell ⟨xb, 1, none⟩ (.int .i64 (i2N s q)))) := ((HKA.out.trans hk5 (fun _ _ e => e)).mono (fun _ _ e => .inl e)).setC 1 _ (fun _ => .inr rfl)
          clear hr5 hk5 hx5
          go_wp2_with fail
          generalize w5.setCell ⟨xb, 1, none⟩ (.int .i64 (i2N s q)) = W6 at HX6 HR6 HK6 ⊢
          have HC3 : Calls Try.prog 31 #[.pointer (some ⟨rb, 0, none⟩), .int .i64 1, .int .i64 50] W6 (RrP 77 W6 rb s (.int .i64 (i3N s q)) (i3T s q) (i3E s q)) := number_any 1 50 HR6.out hs (Int.le_trans b2 (by omega))
          refine HC3.mono ?_
          clear HC3
          rintro e w7 ⟨rfl, hr7, hk7⟩
          have hx7 := (hk7.block _ (block_lt HX6.out) hnx).trans HX6.out
          have d2 := block_cell hx7 2
          have g2 := block_free hx7 2
          have l7 := block_lt hx7
          have hx8 : (w7.setCell ⟨xb, 2, none⟩ (.int .i64 (i3N s q))).heap[xb]? = some (.cells #[.int .i64 (i1N s q), .int .i64 (i2N s q), .int .i64 (i3N s q)] 62 (0, 0)) := setCell_block hx7 2 _
          have HR8 : Hid (Rr 77 (w7.setCell ⟨xb, 2, none⟩ (.int .i64 (i3N s q))) rb s (i3T s q) (i3E s q)) := Rr.keep hr7 ((Keeps.refl (fun k => k = xb) w7).setC 2 _ (fun _ => rfl)) (fun e => hnx e.symm)
          have hk8 : Keeps (fun k => k = rb ∨ k = xb) wo (w7.setCell ⟨xb, 2, none⟩ (.int .i64 (i3N s q))) := (HK6.out.trans hk7 (fun _ _ e => .inl e)).setC 2 _ (fun _ => .inr rfl)
          have hhb : ¬ (hb = rb ∨ hb = xb) := by have := HXN.out; have := block_lt HQH.out; have := HNE.out; omega
          have HH8 : Hid (HAt (w7.setCell ⟨xb, 2, none⟩ (.int .i64 (i3N s q))) hb q.h) := (hk8.block _ (block_lt HQH.out) hhb).trans HQH.out
          have HP8 : Hid (PF w (w7.setCell ⟨xb, 2, none⟩ (.int .i64 (i3N s q))) (fun k => k = rb ∨ k = hb) pb (mapI l)) := by
            have h9 := HQP.out.more (G := fun k => (k = rb ∨ k = hb) ∨ k = xb) (fun k e => e.imp (fun e => e) (fun e => by have := HXN.out; omega))
            have h8 := h9.keepS hk8 (fun k _ e => e.elim (fun e => .inl (.inl e)) .inr)
            obtain ⟨mb, L, g1, g2, g3, g4, g5⟩ := h8
            exact ⟨mb, L, g1, fun e => g2 (.inl e), fun e => g3 (.inl e), fun t p e1 e2 => g4 t p e1 (.inl e2), fun k e => g5 k (.inl e)⟩
          have e0 := block_cell hx8 0
          have e1 := block_cell hx8 1
          have e2 := block_cell hx8 2
          have el := block_lt hx8
          have HIS : Hid (istep s q = ⟨i3T s q, i3E s q, addH q.h ⟨i1N s q, i2N s q, i3N s q⟩⟩) := rfl
          clear hr7 hk7 hx7 hx8 hk8 hhb hnx
          go_wp2_with fail
          generalize w7.setCell ⟨xb, 2, none⟩ (.int .i64 (i3N s q)) = W8 at HR8 HH8 HP8 ⊢
          refine (add_any HH8.out HQO.out ⟨i1N s q, i2N s q, i3N s q⟩).mono ?_
          rintro e w9 ⟨rfl, hh9, hk9⟩
          have HFIN : Hid (Rr 77 w9 rb s (istep s q).a (istep s q).e ∧ HAt w9 hb (istep s q).h ∧ PF w w9 (fun k => k = rb ∨ k = hb) pb (mapI l)) := by
            show _ ∧ _ ∧ _
            rw [HIS.out]
            exact ⟨HR8.out.keep hk9 (fun e => HNE.out e.symm), hh9, HP8.out.keepS hk9 (fun k _ e => .inr e)⟩
          clear hh9 hk9
          go_wp2
          go_roundw
          case rel => exact ⟨m - 1, istep s q, by go_num, HI2.out, HB9.out, addH_ok HQO.out _, fun _ => HM9.out, HFIN.out⟩
          case measure => have := HMP.out; simp [intOf]; omega
        · have hFI : Hid (q = FI) := by
            show _ = _
            rw [← HI.out]
            by_cases hqe : q.e = 0
            · rw [show m.toNat = 0 by omega]; rfl
            · exact (irun_stop s _ hqe).symm
          have hFI2 := hFI.out
          subst hFI2
          obtain ⟨r0, r1, r2, r3, r4, r5⟩ := hrq.all
          have HRQ := Lib.hid hrq
          obtain ⟨mb, L, hpa, u1, u2, u3, u4⟩ := HQP.out
          have d0 : wo.cell? ⟨pb, 0, none⟩ = some (.map (some mb)) := block_cell hpa.blk 0
          have dl := block_lt hpa.blk
          obtain ⟨o, hu, hu2⟩ := hpa.map.put_all (intKey Try.underlying3) Try.underlying56 nid (.pointer (some ⟨hb, 0, none⟩))
          have hu1 : (Instr.mapUpdate 56 (.map (some mb)) (.int .i64 nid) (.pointer (some ⟨hb, 0, none⟩))).run Try.prog wo = .ok () (setObjAt wo mb o) := hu _ rfl
          have HNW := HQH.out
          have HPUT : Hid (PPt w (setObjAt wo mb o) rb pb s OS) := by
            have hmr : ¬ mb = rb := fun e => u2 (.inl e)
            refine ⟨?_, ?_⟩
            · rw [HOST.out]
              exact (setObjAt_other _ _ (show rb ≠ mb from fun e => hmr e.symm)).trans HRQ.out
            · rw [HOST.out]
              show PF _ _ _ _ (mapI (l ++ [(nid, q.h)]))
              rw [mapI_app]
              have hpd : PAt w wo pb (mapI l) mb L := hpa
              refine ⟨mb, aput L nid (hb, q.h), hpd.putF nid (fun e => u1 (.inr e.symm)) (fun e => u2 (.inr e.symm)) (fun t p e1 e2 => u3 t p e1 (.inr e2)) (u4 _ (.inr rfl)) HNW (hu2 _ rfl), fun e => u1 (.inl e), hmr, fun t p e1 e2 => ?_, fun k e => u4 k (.inl e)⟩
              rw [aget_aput] at e1
              split at e1
              · cases e1; exact HNE.out e2
              · exact u3 t p e1 (.inl e2)
          have HRL : Hid (OS.a ≤ s.size ∧ (OS.e = 0 → -1 ≤ OS.id ∧ OS.id ≤ 1073741824)) := by
            show _ ∧ (_ → _)
            rw [HOST.out]
            exact ⟨hqa, fun e => HO1.out (HO2.out e)⟩
          have HOI : Hid (nid = OS.id) := by show _ = _; rw [HOST.out]
          clear hu hu2 hpa u1 u2 u3 u4 hrq hhq hpq hok hI HNW hFI hm5
          by_cases hmp : 0 < m
          · have he9 : ¬ q.e = 0 := fun e => hgi ⟨hmp, e⟩
            have he : (q.e == 0) = false := by rw [beq_eq_false_iff_ne]; exact he9
            clear hgi he9
            go_wp2
            go_roundw
            case rel => exact ⟨n - 1, OS, by go_num, by rw [HOI.out], HF.out, HRL.out.1, fun e => ⟨(HRL.out.2 e).1, (HRL.out.2 e).2, HZ9.out⟩, HPUT.out⟩
            case measure => have := HNN.out; simp [intOf]; omega
          · clear hgi
            go_wp2
            go_roundw
            case rel => exact ⟨n - 1, OS, by go_num, by rw [HOI.out], HF.out, HRL.out.1, fun e => ⟨(HRL.out.2 e).1, (HRL.out.2 e).2, HZ9.out⟩, HPUT.out⟩
            case measure => have := HNN.out; simp [intOf]; omega
    · have hFF : Hid (F = p) := by
        show _ = _
        rw [← hF]
        by_cases hqe : p.e = 0
        · rw [show n.toNat = 0 by omega]; rfl
        · exact orun_stop s _ hqe
      have HPZ : Hid (pzE s = wE p.e (decide (p.a = s.size))) := by show _ = _; rw [HPE.out, hFF.out]
      have HYES : Hid (wE p.e (decide (p.a = s.size)) = 0 → ∀ q, ParsePI w s (.returned (.tuple #[.pointer (some ⟨pb, 0, none⟩), .int .i64 0])) (wr.drewN q)) := by
        show _ → ∀ _, _
        intro h0 q
        refine .inr ⟨by rw [HPZ.out]; exact h0, pb, rfl, ?_⟩
        rw [HFF2.out, hFF.out]
        exact HP.out.pf.st.keep ((Keeps.refl _ _).drewN q)
      have HNO : Hid (∀ x wx, wE p.e (decide (p.a = s.size)) = x → x ≠ 0 → Keeps (fun k => k = rb) wr wx → ParsePI w s (.returned (.tuple #[.pointer none, .int .i64 x])) wx) := by
        show ∀ _ _, _ → _ → _ → _
        intro x wx hx hx0 hk
        exact .inl ⟨by rw [HPZ.out, hx]; exact hx0, by rw [HPZ.out, hx], (HP.out.pf.keepS hk (fun k _ e => e)).k0⟩
      obtain ⟨r0, r1, r2, r3, r4, r5⟩ := hp.rd.all
      obtain ⟨a, e, id, l⟩ := p
      have r1 : wr.cell? ⟨rb, 1, none⟩ = some (.int .i64 a) := r1
      have r2 : wr.cell? ⟨rb, 2, none⟩ = some (.int .i64 e) := r2
      have HYES : Hid (wE e (decide (a = s.size)) = 0 → ∀ q, ParsePI w s (.returned (.tuple #[.pointer (some ⟨pb, 0, none⟩), .int .i64 0])) (wr.drewN q)) := HYES.out
      have HNO : Hid (∀ x wx, wE e (decide (a = s.size)) = x → x ≠ 0 → Keeps (fun k => k = rb) wr wx → ParsePI w s (.returned (.tuple #[.pointer none, .int .i64 x])) wx) := HNO.out
      have hgo2 : (0 < n ∧ ¬ e = 0) ∨ ¬ 0 < n := by
        by_cases h1 : 0 < n
        · exact .inl ⟨h1, fun h2 => hgo ⟨h1, h2⟩⟩
        · exact .inr h1
      clear hF hz hp hgo hFF HPZ
      by_cases he0 : e = 0
      · have hnn : ¬ 0 < n := hgo2.elim (fun h => absurd he0 h.2) (fun h => h)
        have he : (e == 0) = true := by simp [he0]
        by_cases has : a = s.size
        · have ha1 : (a == (s.size : Int)) = true := by simp [has]
          have hw0 : wE e (decide (a = s.size)) = 0 := by rw [he0, decide_eq_true has]; rfl
          have HY := Lib.hid (HYES.out hw0)
          clear hgo2 has hw0 ha
          subst he0
          go_wp2
          go_ret2
          exact HY.out 0
        · have ha1 : (a == (s.size : Int)) = false := by rw [beq_eq_false_iff_ne]; exact has
          have hw0 : wE e (decide (a = s.size)) = 3 := by rw [he0, decide_eq_false has]; rfl
          have HN := Lib.hid (fun wx hk => HNO.out 3 wx hw0 (by decide) hk)
          clear hgo2 has hw0 ha
          subst he0
          go_wp2
          go_quiet (fail)
          go_wp2
          go_ret2
          exact HN.out _ (((Keeps.refl (fun k => k = rb) wr).setC 2 _ (fun _ => rfl)).drewN _)
      · have he : (e == 0) = false := by rw [beq_eq_false_iff_ne]; exact he0
        have hw0 : wE e (decide (a = s.size)) = e := by unfold wE; rw [if_neg he0]
        have HN := Lib.hid (fun wx hk => HNO.out e wx hw0 he0 hk)
        clear hw0 ha he0
        rcases hgo2 with ⟨h1, _⟩ | h1
        all_goals
          go_wp2
          go_quiet (fail)
          go_wp2
          go_ret2
          exact HN.out _ ((Keeps.refl _ _).drewN _)
end Go.Proofs.Ytbjpifipjcfhkaa
