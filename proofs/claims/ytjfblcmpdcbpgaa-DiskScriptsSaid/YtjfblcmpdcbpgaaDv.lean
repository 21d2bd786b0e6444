/-
  A disk's Copy, walked.
-/
import Derived.Test.YtjfblcmpdcbpgaaDu
import Derived.Test.YtjfblcmpdcbpgaaSn
import Derived.Maps.RangeWalk
namespace Go.Proofs.Ytjfblcmpdcbpgaa
open Go.RowKit Go.Maps Go.ChangeShapes Go.WideShapes Go.ChangeMaps Fx

def mkV (c : Option Nat) : Value := .pointer (c.map fun b => ⟨b, 0, none⟩)
def ptrR (v : Value) : Option (DataW Unit × List MemPlace) := match v with
  | .pointer none => some (.lit (.bool false), [])
  | .pointer (some ⟨b, 0, none⟩) => some (.lit (.int .i64 b), [])
  | _ => none
theorem ptrR_inv (v : Value) (y : DataW Unit × List MemPlace) (h : ptrR v = some y) : ∃ c, v = mkV c := by
  unfold ptrR at h
  split at h
  · exact ⟨none, rfl⟩
  · rename_i b; exact ⟨some b, rfl⟩
  · cases h
theorem text_key {x : ByteArray} {kl : Lit} (h : keyOf Try.prog 9 (.string x) = some kl) : kl = .string x.data.toList := by
  simp [keyOf, Try.underlying9, mapKey] at h
  exact h.2.symm
theorem key_text {key : Value} {kl : Lit} (h : keyOf Try.prog 9 key = some kl) : ∃ x : ByteArray, key = .string x := by
  cases key <;> simp [keyOf, Try.underlying9, mapKey] at h
  exact ⟨_, rfl⟩
theorem keyed : Keyed Try.prog 9 := string_keyed Try.underlying9
section
variable {L : List (ByteArray × (Nat × FileC))}
/-- The kit's word for a disk's map. -/
theorem owns_ptr {w : World} {mb : Nat} (h : MapAt .string w mb (avals fptr L)) (hd : KD L) (hs : ∀ p ∈ avals fptr L, p.1.size ≤ 100000) (hl : L.length ≤ 100000) :
    ∃ D0 : DataW Unit, w.ownsMap Try.prog 9 ptrR mb L.length D0 ∧ ∀ s p, aget L s = some p → Maps.has D0 (.string s.data.toList) = true := by
  obtain ⟨es, clock, hb, hst, hL⟩ := h
  have hlen : es.size = L.length := by have := congrArg List.length hL; simpa [avals] using this
  have hkey : ∀ x ∈ es.toList, ∃ p ∈ L, x.key = .string p.1 ∧ x.val = fptr p.2 := fun x hx => by
    have : (x.key, x.val) ∈ (avals fptr L).map (fun p => (Value.string p.1, p.2)) := hL ▸ List.mem_map.2 ⟨x, hx, rfl⟩
    obtain ⟨q, hq, e⟩ := List.mem_map.1 this
    obtain ⟨p, hp, rfl⟩ := List.mem_map.1 hq
    exact ⟨p, hp, (congrArg Prod.fst e).symm, (congrArg Prod.snd e).symm⟩
  have hrd : ∀ x ∈ es.toList, ∀ p ∈ L, x.key = .string p.1 → x.val = fptr p.2 → WideElems.rd Try.prog 9 ptrR x = some (.string p.1.data.toList, .lit (.int .i64 p.2.1)) := fun x hx p hp e1 e2 => by
    have hk : keyOf Try.prog 9 x.key = some (.string p.1.data.toList) := by rw [e1]; exact keyOf_text _ (by have := hs (p.1, fptr p.2) (List.mem_map.2 ⟨p, hp, rfl⟩); unfold maxLen; simp only at this; omega)
    unfold WideElems.rd
    rw [hk, e2]
    rfl
  refine ⟨_, ⟨es, clock, hb, ⟨by unfold maxLen; omega, hst, fun x hx => ?_⟩, by omega, rfl⟩, fun s p e => ?_⟩
  · obtain ⟨p, hp, e1, e2⟩ := hkey x hx
    exact ⟨_, hrd x hx p hp e1 e2⟩
  · have h1 : (Value.string s, fptr p) ∈ es.toList.map (fun x => (x.key, x.val)) := by
      rw [hL]
      exact List.mem_map.2 ⟨(s, fptr p), List.mem_map.2 ⟨(s, p), aget_in e, rfl⟩, rfl⟩
    obtain ⟨x, hx, e2⟩ := List.mem_map.1 h1
    have h2 := hrd x hx (s, p) (aget_in e) (congrArg Prod.fst e2) (congrArg Prod.snd e2)
    refine List.any_eq_true.2 ⟨WideElems.rg Try.prog 9 ptrR x, mem_sorted.2 (List.mem_map.2 ⟨x, hx, rfl⟩), ?_⟩
    rw [WideElems.rg_of h2]
    exact WideAt.sameKey_self (keyed.key (keyOf_text s (by have := hs (s, fptr p) (List.mem_map.2 ⟨(s, p), aget_in e, rfl⟩); unfold maxLen; simp only at this; omega)))
/-- The entry that came. -/
theorem next_entry {wr : World} {mb r n cnt : Nat} {D0 : DataW Unit} {left : Lit → Bool} (hrg : wr.ranges Try.prog 9 ptrR mb r n D0 left cnt) (hm : MapAt .string wr mb (avals fptr L)) (hd : KD L) {x : ByteArray} {c : Option Nat} {kl : Lit} {y : DataW Unit × List MemPlace}
    (hkey : keyOf Try.prog 9 (.string x) = some kl) (hl : left kl = true) (hy : ptrR (mkV c) = some y) (hat : ∀ zd, D0.atKey kl zd = y.1) : kl = .string x.data.toList ∧ ∃ p, aget L x = some p ∧ c = some p.1 := by
  have hk := text_key hkey
  refine ⟨hk, ?_⟩
  have hin : ∃ p, aget L x = some p := by
    obtain ⟨es, clock, since, seen, c0, hb, F, _, _, _, _, _, _, h5, _⟩ := hrg
    obtain ⟨e, he, hek⟩ := h5 kl hl
    obtain ⟨es', clock', hb', _, hL⟩ := hm
    rw [hb] at hb'
    cases hb'
    have : (e.key, e.val) ∈ (avals fptr L).map (fun p => (Value.string p.1, p.2)) := hL ▸ List.mem_map.2 ⟨e, he, rfl⟩
    obtain ⟨q, hq, e2⟩ := List.mem_map.1 this
    obtain ⟨p, hp, rfl⟩ := List.mem_map.1 hq
    obtain ⟨z, hz⟩ := F.reads e he
    have h6 := WideElems.rd_key hz
    have hke : e.key = .string p.1 := (congrArg Prod.fst e2).symm
    rw [hke] at h6
    have h7 := text_key h6
    rw [WideElems.rg_of hz, h7, hk] at hek
    simp only [Lit.string.injEq] at hek
    have h8 : p.1 = x := ByteArray.ext (Array.ext' hek)
    exact ⟨p.2, aget_of_mem hd (by rw [← h8]; exact hp)⟩
  obtain ⟨p, hp⟩ := hin
  refine ⟨p, hp, ?_⟩
  obtain ⟨v, ps, hrun, hv⟩ := hrg.owns.lookup keyed Try.underlying57 (zeroFile wr) (zd := .lit (.bool false)) (zp := []) rfl hkey
  have hrun2 := hm.look (strKey Try.underlying9) Try.underlying57 (zeroFile wr) x false
  have hvv : v = fptr p := by
    have e1 : (aget (avals fptr L) x) = some (fptr p) := by rw [aget_avals, hp]; rfl
    rw [e1] at hrun2
    have := hrun.symm.trans hrun2
    simpa using this
  rw [hvv, hat] at hv
  have h9 : ptrR (fptr p) = some (.lit (.int .i64 p.1), []) := rfl
  rw [h9] at hv
  simp only [Option.some.injEq, Prod.mk.injEq] at hv
  cases c with
  | none =>
    have : ptrR (mkV none) = some (.lit (.bool false), []) := rfl
    rw [this] at hy
    cases hy
    exact absurd hv.1 (by simp)
  | some b =>
    have : ptrR (mkV (some b)) = some (.lit (.int .i64 b), []) := rfl
    rw [this] at hy
    cases hy
    have := hv.1
    simp at this
    have : p.1 = b := by omega
    subst this
    rfl
end
theorem Keeps_grown {w w' : World} {b : Nat} (h : Keeps (fun k => k = b) w w') : w.grownBy w' (some b) :=
  ⟨h.os, h.tape, h.output, h.size, fun i hi hne => h.block i hi (fun e => hne (by rw [e]))⟩
theorem grown_K0 {w w' : World} (h : w.grownBy w' none) : K0 w w' :=
  ⟨h.os, h.tape, h.output, h.size, fun i hi _ => h.block i hi (by simp)⟩
theorem grown_one {w w' : World} {b : Nat} (h : w.grownBy w' (some b)) : Keeps (fun k => k = b) w w' :=
  ⟨h.os, h.tape, h.output, h.size, fun i hi hne => h.block i hi (fun e => hne (by cases e; rfl))⟩
/-- Under way: what has come is in the copy. -/
def CopyRel (w : World) (mb n r : Nat) (D : DiskC) (D0 : DataW Unit) (wr : World) : Prop :=
  ∃ (left : Lit → Bool) (cnt : Nat) (F2 : List (ByteArray × FileC)) (L2 : List (ByteArray × (Nat × FileC))), wr.ranges Try.prog 9 ptrR mb r n D0 left cnt ∧ DAt w wr (w.heap.size + 1) ⟨D.room, D.used, D.fuse, F2⟩ w.heap.size L2 ∧
    (∀ s p, aget L2 s = some p → p.1 ≠ r) ∧ ∀ s, aget F2 s = if left (.string s.data.toList) then none else aget D.files s
set_option maxRecDepth 100000 in
set_option maxHeartbeats 4000000 in
theorem copy_at {w0 w : World} {db mb : Nat} {D : DiskC} {L : List (ByteArray × (Nat × FileC))} (h : DAt w0 w db D mb L) (wf : WfD D) (hl : D.files.length ≤ 1000) :
    Calls Try.prog 15 #[.pointer (some ⟨db, 0, none⟩)] w fun e w' => ∃ F2, e = .returned (.pointer (some ⟨w.heap.size + 1, 0, none⟩)) ∧ DSt w w' (w.heap.size + 1) ⟨D.room, D.used, D.fuse, F2⟩ ∧ ∀ s, aget F2 s = aget D.files s := by
  have hmm := @run_makeMap Try.prog
  have c0 := block_cell h.blk 0
  have c1 := block_cell h.blk 1
  have c2 := block_cell h.blk 2
  have c3 := block_cell h.blk 3
  have hlt := block_lt h.blk
  have hltm := h.map.lt
  have hLl : L.length = D.files.length := by rw [← h.core]; simp [amap]
  obtain ⟨D0, ho, hhas⟩ := owns_ptr h.map h.keys (h.small wf) (by omega)
  have HH := Lib.hid h
  have HO := Lib.hid ho
  have HHAS := Lib.hid hhas
  clear h wf hl ho hhas hLl
  go_enter Try.func15, Try.ntmps15
  go_wp2
  go_region
  have hz : (((w.alloc (.map #[] 0)).alloc (.cells #[.int .i64 D.room, .int .i64 D.used, .int .i64 D.fuse, .map (some w.heap.size)] 59)).drew).heap.size = w.heap.size + 2 := by
    show ((w.alloc (.map #[] 0)).alloc _).heap.size = _
    simp
  have H1 : Hid (DAt w (((w.alloc (.map #[] 0)).alloc (.cells #[.int .i64 D.room, .int .i64 D.used, .int .i64 D.fuse, .map (some w.heap.size)] 59)).drew) (w.heap.size + 1) ⟨D.room, D.used, D.fuse, []⟩ w.heap.size []) :=
    ⟨(((Keeps.refl _ _).alloc _).alloc _).drew, heap_new_drew _ _ _ (by simp), rfl, (mapAt_new w).of_block (Below.heap_alloc _ _ _ (by simp)), fun s p e => (by cases e), fun s t p q e => (by cases e), by simp, ⟨by simp, Nat.le_refl _⟩, fun s p e => (by cases e), .nil⟩
  generalize ((w.alloc (.map #[] 0)).alloc (.cells #[.int .i64 D.room, .int .i64 D.used, .int .i64 D.fuse, .map (some w.heap.size)] 59)).drew = w1 at hz H1 ⊢
  have HZ := Lib.hid hz
  have HO1 : Hid (w1.ownsMap Try.prog 9 ptrR mb L.length D0) := HO.out.kept (row := none) ⟨H1.out.k0.os, H1.out.k0.tape, H1.out.k0.output, H1.out.k0.size, fun i hi _ => H1.out.k0.block i hi (fun e => e)⟩ (by simp)
  have d3 : w1.cell? ⟨db, 3, none⟩ = some (.map (some mb)) := H1.out.k0.cell' c3 (fun e => e)
  have hlt1 : db < w1.heap.size := by omega
  clear hz c0 c1 c2 c3
  go_wp2_with (at_range; refine wpList_range_own _ rfl _ 57 rfl 9 62 keyed Try.underlying57 ptrR mb L.length D0 rfl HO1.out ?_; intro wa hrg0 hg0 hs0)
  go_frame
  rw [HZ.out] at hrg0 hs0 ⊢
  have HRG := Lib.hid hrg0
  have HA := Lib.hid (H1.out.keep (grown_K0 hg0))
  clear hrg0 hg0
  go_loopw [4] (fun _ wr => CopyRel w mb L.length (w.heap.size + 2) D D0 wr) (fun _ wr => wr.rangeLeft mb (w.heap.size + 2))
  case atStart =>
    refine ⟨_, _, [], [], HRG.out, HA.out, fun s p e => (by cases e), fun s => ?_⟩
    cases hg : aget D.files s with
    | none => simp [aget]
    | some x =>
      obtain ⟨b, hb⟩ := HH.out.some hg
      rw [HHAS.out s _ hb]
      rfl
  case round =>
    obtain ⟨left, cnt, F2, L2, hrg, hd2, hne, hag⟩ := hrel
    have HR := Lib.hid hrg
    have H2 := Lib.hid hd2
    have HNE := Lib.hid hne
    have HAG := Lib.hid hag
    clear hd2 hne hag
    go_wp2_with (first
      | (at_next; refine wpList_next_ranges _ rfl _ rfl 9 keyed ptrR Value.string mkV (fun key kl h => key_text h) ptrR_inv mb (w.heap.size + 2) L.length D0 left cnt rfl hrg ?_ ?_)
      | go_in)
    · intro hc0 hl0
      go_wp2
      go_ret
      exact ⟨F2, rfl, ⟨_, _, H2.out⟩, fun s => by rw [HAG.out s, hl0]; rfl⟩
    · intro x c kl y1 y2 w2 cnt1 hkey hlk hy hat hrg1 hcl hg1 hs1 hen
      obtain ⟨hkl, p, hp, hcp⟩ := next_entry HR.out (HH.out.keep H2.out.k0).map HH.out.keys hkey hlk hy hat
      subst hkl hcp
      have hen : (Instr.entry (.pointer (some ⟨w.heap.size + 2, 0, none⟩))).run Try.prog w2 = .ok (.tuple #[.string x, .pointer (some ⟨p.1, 0, none⟩)]) w2 := hen
      have hd3 : DAt w w2 (w.heap.size + 1) ⟨D.room, D.used, D.fuse, F2⟩ w.heap.size L2 := H2.out.keepS (S := fun k => k = w.heap.size + 2) (grown_one hg1) (fun k e => ⟨by omega, by omega, by omega, fun s q eq => by have := HNE.out s q eq; omega⟩)
      have hsrc := HH.out.keep hd3.k0
      have hf := hsrc.fil x p hp
      have f0 : w2.cell? ⟨p.1, 0, none⟩ = some (.string p.2.bytes) := block_cell hf 0
      have f1 : w2.cell? ⟨p.1, 1, none⟩ = some (.int .i64 p.2.safe) := block_cell hf 1
      have hltp := block_lt hf
      have hK : K0 w2 (w2.alloc (.cells #[.string p.2.bytes, .int .i64 p.2.safe] 65)) := (Keeps.refl (fun _ => False) w2).alloc _
      have HB : Hid ((w2.alloc (.cells #[.string p.2.bytes, .int .i64 p.2.safe] 65)).heap[w2.heap.size]? = some (.cells #[.string p.2.bytes, .int .i64 p.2.safe] 65 (0, 0))) := heap_new _ _ _ rfl
      have g3 : w2.cell? ⟨w.heap.size + 1, 3, none⟩ = some (.map (some w.heap.size)) := block_cell hd3.blk 3
      have hltc := block_lt hd3.blk
      have hm := Lib.hid (hd3.map.keep hK (fun e => e))
      have H3 := Lib.hid hd3
      have HK := Lib.hid hK
      have HL2 : Hid (aget L2 x = none) := hd3.none (by have := HAG.out x; rw [hlk] at this; exact this)
      have HR1 := Lib.hid hrg1
      have HP := Lib.hid hp
      have HKEY := Lib.hid hkey
      have HLT := Lib.hid hcl
      clear hd3 hsrc hf hK hrg1 hp hkey hlk hy hat hg1 hs1
      have hmk : mkV (some p.1) = .pointer (some ⟨p.1, 0, none⟩) := rfl
      rw [hmk]
      go_wp2_with (first
        | (at_mapUpdate; refine wpList_put (strKey Try.underlying9) rfl rfl Try.underlying57 rfl x rfl hm.out (.pointer (some ⟨w2.heap.size, 0, none⟩)) rfl ?_; intro ob hM)
        | go_in)
      have h4 := H3.out.add (x := p.2) HL2.out HK.out (Nat.le_refl _) HB.out hM
      have hgrow : w2.grownBy (setObjAt (w2.alloc (.cells #[.string p.2.bytes, .int .i64 p.2.safe] 65)) w.heap.size ob) (some w.heap.size) := Keeps_grown (Keeps.setObj (S := fun k => k = w.heap.size) ((Keeps.refl _ _).alloc _) (fun _ => rfl) ob)
      have hrg2 := HR1.out.kept hgrow (fun e => by have := Option.some.inj e; omega) (fun e => by have := Option.some.inj e; omega)
      go_frame
      go_roundw
      case rel =>
        refine ⟨_, cnt1, _, _, hrg2, h4, fun s q e => ?_, fun s => ?_⟩
        · rw [aget_aput] at e
          split at e
          · cases e
            have := HR1.out.lt
            show w2.heap.size ≠ _
            omega
          · exact HNE.out s q e
        · rw [aget_aput]
          by_cases hxs : x = s
          · subst hxs
            rw [if_pos rfl, WideAt.sameKey_self (keyed.key HKEY.out)]
            have : aget D.files x = some p.2 := by rw [HH.out.agetL, HP.out]; rfl
            rw [this]
            simp
          · rw [if_neg hxs]
            have hsk : (Lit.string s.data.toList).sameKey (Lit.string x.data.toList) = false := by
              cases hq : (Lit.string s.data.toList).sameKey (Lit.string x.data.toList)
              · rfl
              · have := WideAt.sameKey_eq hq
                simp only [Lit.string.injEq] at this
                exact absurd (ByteArray.ext (Array.ext' this)).symm hxs
            rw [hsk]
            simpa using HAG.out s
      case measure => rw [hrg2.left_eq, HR.out.left_eq]; exact HLT.out
end Go.Proofs.Ytjfblcmpdcbpgaa
