/-
  The document's disk: Copy.
-/
import Derived.Test.YtjfblcmpdcbpgaaEm
import Derived.Deep.RegionLaw
namespace Go.Proofs.Ytjfblcmpdcbpgaa
open Go.RowKit Fx

/-- A step of a region that draws its order: an append whose run is known. -/
theorem step_appRun {P : Program} {w w4 : World} {ops : Array Oper} {o : Oper} {a : Act} {K : Act → World → Prop} {Q : Exit → Act → World → Prop} {E : Prop} (hgd : o.guard = none) {s x : Operand} {t : TypeId}
    (ho : o.op = .call { callee := .builtin .append, args := #[s, x], argTypes := #[t, t] }) {v vx r : Value} (hs : a.eval s = v) (hx : a.eval x = vx) (hrun : (Builtin.append_ #[t, t] o.type #[v, vx]).run P w = .ok r w4)
    (h : K (a.put o.dst r) w4) : if Region.wanted o (yielded ops a.tmps) = true then Oper.wp P o a w K Q else E := by
  have hw : Region.wanted o (yielded ops a.tmps) = true := by simp [Region.wanted, hgd]
  rw [if_pos hw]
  unfold Oper.wp execOp
  simp only [ho, resolve, invoke, builtin, Sem.run_bind, Sem.run_pure, Result.andThen_ok, List.map_toArray, List.map_cons, List.map_nil, hs, hx, hrun]
  exact h
theorem app_files {w : World} {F : Nat → Prop} {b : Nat} {R : DiskC} {v : Value} (h : RAt w F b R v) (hl : R.files.length ≤ 1000) :
    ∃ (a4 : Option Addr) (c4 : Nat) (w4 : World), ((Builtin.append_ #[46, 46] 46 #[.slice none 0 0, v]).run Try.prog w = .ok (.slice a4 R.files.length c4) w4) ∧ K0 w w4 ∧ w4.ownsRow w.heap.size 76 3 (.slice a4 R.files.length c4) R.files.length (R.files.flatMap fenc) := by
  obtain ⟨i, hi, hz, hz1, hz2⟩ := info_parts infoFile
  rcases h.form with ⟨hnil, rfl⟩ | ⟨r, cap, rfl, hrb, hrl, hcap, hFr⟩
  · rw [hnil]
    refine ⟨none, 0, w, ?_, Keeps.refl _ _, World.ownsRow_nil _ _ _ _⟩
    simp [Builtin.append_, run_underlying Try.underlying46, sizeOf, typeInfo, hi, Builtin.lenOf, Builtin.firstCells, loadCells, loadCellsFrom]
  · have hcells : ∀ j u, (R.files.flatMap fenc)[j]? = some u → w.cell? ((⟨r, 0, none⟩ : Addr).add j) = some u := fun j u hu => by
      have hj : j < (R.files.flatMap fenc).length := (List.getElem?_eq_some_iff.1 hu).1
      rw [add_at, Nat.zero_add, h.row.cellAt j (by rw [flat_len fenc 3 fenc_len] at hj; exact hj)]
      exact hu
    have hc2 : ∀ u ∈ R.files.flatMap fenc, u.oneCell' = true := fun u hu => by
      obtain ⟨y, hy, hu⟩ := List.mem_flatMap.1 hu
      exact fenc_one y u hu
    obtain ⟨v', w', hr, h2, h3, h4⟩ := run_append_own (P := Try.prog) w w.heap.size 46 46 76 i _ 3 40 Try.underlying46 hi hz hz1 hz2 rfl (by decide) (.slice none 0 0) 0 [] (World.ownsRow_nil _ _ _ _) ⟨r, 0, none⟩ R.files.length cap (R.files.flatMap fenc) (flat_len fenc 3 fenc_len _) hcells hc2 (by unfold maxLen; omega) (by omega) (Nat.le_refl _)
    simp only [Nat.zero_add, List.nil_append] at h2
    obtain ⟨a4, c4, rfl⟩ := own_slice h2
    exact ⟨a4, c4, w', hr, (Keeps.refl (fun _ => False) w).grown h3 (fun k e => by cases e), h2⟩
/-- A disk more, that is the same. -/
def RCopyPost (w : World) (F : Nat → Prop) (b : Nat) (R : DiskC) (e : Ending) (w' : World) : Prop := ∃ c F', e = .returned (.pointer (some ⟨c, 0, none⟩)) ∧ RSt w' F' c R ∧ (∀ k, F' k → w.heap.size ≤ k) ∧ K0 w w'
theorem copied {w wa w4 : World} {R : DiskC} {bn c4 : Nat} {a4 : Option Addr} (hka : K0 w wa) (hbn : wa.heap[bn]? = some (.cells #[.int .i64 R.room, .slice none 0 0, .int .i64 R.fuse] 48 (0, 0))) (hb : w.heap.size ≤ bn) (hk : K0 wa w4)
    (ho : w4.ownsRow wa.heap.size 76 3 (.slice a4 R.files.length c4) R.files.length (R.files.flatMap fenc)) : ∃ F', RSt (w4.setCell ⟨bn, 1, none⟩ (.slice a4 R.files.length c4)) F' bn R ∧ (∀ k, F' k → w.heap.size ≤ k) ∧ K0 w (w4.setCell ⟨bn, 1, none⟩ (.slice a4 R.files.length c4)) := by
  have hbl := block_lt hbn
  have hw := hka.size
  have hk2 : Keeps (fun k => k = bn) w4 (w4.setCell ⟨bn, 1, none⟩ (.slice a4 R.files.length c4)) := (Keeps.refl (fun k => k = bn) w4).setC 1 _ (fun _ => rfl)
  have hb4 := (hk.block bn hbl (fun e => e)).trans hbn
  refine ⟨fun k => w.heap.size ≤ k ∧ k < (w4.setCell ⟨bn, 1, none⟩ (.slice a4 R.files.length c4)).heap.size, ⟨_, setCell_block hb4 1 _, own_base (row_keep hk2 ho (fun k e e2 => by have := (ho.lt k e).1; omega)) (Nat.zero_le _), ⟨hb, by have := block_lt hb4; have := hk2.size; omega⟩, fun k e => e.2, fun k e => ?_⟩, fun k e => e.1, ?_⟩
  · have h1 := ho.lt k e
    have h2 := hk2.size
    exact ⟨⟨by omega, by omega⟩, by omega⟩
  · exact (K0.tr hka hk).trans hk2 (fun k hk3 e => by omega)
set_option maxRecDepth 100000 in
set_option maxHeartbeats 4000000 in
theorem rcopy_any {w : World} {F : Nat → Prop} {b : Nat} {R : DiskC} (h : RSt w F b R) (hl : R.files.length ≤ 1000) :
    Calls Try.prog 40 #[.pointer (some ⟨b, 0, none⟩)] w (RCopyPost w F b R) := by
  obtain ⟨v, h⟩ := h
  have HH := Lib.hid h
  have hb := block_lt h.blk
  have c0 : w.cell? ⟨b, 0, none⟩ = some (.int .i64 R.room) := block_cell h.blk 0
  have c1 : w.cell? ⟨b, 1, none⟩ = some v := block_cell h.blk 1
  have c2 : w.cell? ⟨b, 2, none⟩ = some (.int .i64 R.fuse) := block_cell h.blk 2
  clear h
  go_enter Try.func40, Try.ntmps40
  go_wp2
  go_region
  have HB : Hid (((w.alloc (.cells #[.int .i64 R.room, .slice none 0 0, .int .i64 R.fuse] 48)).drew).heap[w.heap.size]? = some (.cells #[.int .i64 R.room, .slice none 0 0, .int .i64 R.fuse] 48 (0, 0))) := heap_new _ _ _ rfl
  have HK : Hid (K0 w ((w.alloc (.cells #[.int .i64 R.room, .slice none 0 0, .int .i64 R.fuse] 48)).drew)) := ((Keeps.refl _ _).alloc _).drew
  obtain ⟨bn, hbn⟩ : ∃ bn, bn = w.heap.size := ⟨_, rfl⟩
  rw [← hbn] at HB ⊢
  have HBN := Lib.hid hbn
  clear hbn hb c0 c1 c2
  generalize (w.alloc _).drew = wa at HB HK ⊢
  obtain ⟨a4, c4, w4, hrun, hk4, ho4⟩ := app_files (w := wa.drew) (HH.out.keep (HK.out.drew) (fun _ _ e => e)) hl
  have HP := Lib.hid (copied (w := w) (wa := wa.drew) HK.out.drew HB.out (by have := HBN.out; omega) hk4 ho4)
  have d1 := block_cell HB.out 1
  have hbl := block_lt HB.out
  have hba := (HH.out.keep HK.out (fun _ _ e => e)).blk
  have c1 : wa.cell? ⟨b, 1, none⟩ = some v := block_cell hba 1
  have hb := block_lt hba
  have hb4 := (hk4.block bn hbl (fun e => e)).trans HB.out
  have g1 := block_cell hb4 1
  have gf := block_free hb4 1
  have gl := block_lt hb4
  clear hk4 ho4 hba hb4
  go_wp2
  go_region_law (refine step_appRun rfl rfl rfl rfl hrun ?_)
  all_goals
    go_wp2
    go_ret
    obtain ⟨F', q1, q2, q3⟩ := HP.out
    exact ⟨_, F', rfl, q1, q2, q3⟩
end Go.Proofs.Ytjfblcmpdcbpgaa
