/-
  A number that is none printed; a table's names, its list; what a table that is none prints.
-/
import Derived.Test.YtegbiekfpcfnnaaTg
import Derived.Test.YtegbiekfpcfnnaaSt
import Derived.Test.YtegbiekfpcfnnaaAp
import Derived.Laws.BytesArg
import Derived.WalkMore
import Derived.Deep.RegionHeld3
namespace Go.Proofs.Ytegbiekfpcfnnaa
open Go.RowKit Fx

theorem info5 : (Try.prog.info? 5).map (fun i => (i.zero, i.size, i.bytes)) = some (some (.int .u8 0), 1, 1) := by kernel_rfl
set_option maxRecDepth 100000 in
set_option maxHeartbeats 1000000 in
theorem put0 (w : World) : Calls Try.prog 27 #[.int .i64 0] w fun e w' => Same w e (.string ⟨#[0]⟩) w' := by
  have hown : w.ownsRow 0 5 1 (.slice none 0 0) 0 [] := World.ownsRow_nil _ _ _ _
  have hx : bits BinOp.xor IntKind.u64 0 0 = 0 := by kernel_rfl
  have hcv : ∀ (wx : World) (g cap : Nat), wx.cell? ⟨g, 0, none⟩ = some (.int .u8 0) → (convert 84 9 (.slice (some ⟨g, 0, none⟩) 1 cap)).run Try.prog wx = .ok (.string ⟨#[0]⟩) wx := fun wx g cap hc =>
    run_convert_bytes_arg wx 84 5 Try.underlying84 Try.underlying5 g 0 1 cap [0] rfl (fun j hj => by
      obtain rfl : j = 0 := by omega
      exact hc) 9 Try.underlying9
  go_enter Try.func27, Try.ntmps27
  go_wp2
  go_step3
  go_wp2
  go_step3
  go_wp2_with (at_builtin; refine wpList_app1 rfl rfl Try.underlying84 info5 rfl (by decide) rfl (hown.alloc _) rfl (heap_new _ _ _ rfl) rfl rfl (by omega) (Nat.zero_le _) ?_; intro g1 cap1 w1 hA; have hc1 : w1.cell? ⟨g1, 0, none⟩ = some (.int .u8 0) := hA.own.cellAt 0 (by decide); have hc2 := hcv w1 g1 cap1 hc1)
  have HF : Hid (K0 w w1) := by
    have hg : w.grownBy w1 none := grown_alloc hA.grown
    exact ⟨hg.os, hg.tape, hg.output, hg.size, fun i hi _ => hg.block i hi (by simp)⟩
  clear hA
  rw [Exit.noGoto_ret]
  go_ret
  exact ⟨rfl, HF.out⟩
set_option maxRecDepth 100000 in
set_option maxHeartbeats 1000000 in
theorem names_nil (w : World) : Calls Try.prog 23 #[.pointer none] w fun e w' => Same w e (.slice none 0 0) w' := by
  go_enter Try.func23, Try.ntmps23
  go_wp2
  go_ret
  exact ⟨rfl, Keeps.refl _ _⟩
set_option maxRecDepth 100000 in
set_option maxHeartbeats 1000000 in
theorem names_at {w : World} {b m : Nat} {t : Tbl} (h : TblAt w b m t) (hs : ∀ p ∈ t.all, p.1.size ≤ 100000) (hl : t.all.length ≤ 100000) :
    Calls Try.prog 23 #[.pointer (some ⟨b, 0, none⟩)] w fun e w' => ∃ a c ss, e = .returned (.slice a ss.length c) ∧ NamesAt (w.heap.size + 1) w' (.slice a ss.length c) ss (Tbl.vals t.all) ∧ K0 w w' := by
  have c1 := h.cell1
  have hlt := h.lt
  have HSR := Lib.hid (sorted_any h.map (fun p hp => by obtain ⟨q, hq, rfl⟩ := List.mem_map.1 hp; exact hs q hq) (by simp [Tbl.vals]; omega))
  have HKS := Lib.hid (keys_any (some m) w)
  clear h hs hl
  go_enter Try.func23, Try.ntmps23
  go_wp2_with fail
  refine HKS.out.mono ?_
  rintro e w1 ⟨rfl, rfl⟩
  go_wp2_with fail
  refine HSR.out.mono ?_
  rintro e w1 ⟨v, ss, rfl, hN, k1⟩
  have hrow := hN.row
  obtain ⟨a0, c0, rfl⟩ : ∃ a0 c0, v = .slice a0 ss.length c0 := by
    rcases hrow.2 with ⟨h1, h2⟩ | ⟨r, cp, cur, h1, _⟩
    · rw [h1, h2]; exact ⟨_, _, rfl⟩
    · exact ⟨_, _, h1⟩
  have HN := Lib.hid hN
  have K1 := Lib.hid (K0.tr ((Keeps.refl (fun _ => False) w).alloc _) k1)
  clear hN hrow k1
  go_wp2
  go_ret
  exact ⟨a0, c0, ss, rfl, HN.out, K1.out⟩
set_option maxRecDepth 100000 in
set_option maxHeartbeats 1000000 in
theorem list_nil (w : World) : Calls Try.prog 14 #[.pointer none] w fun e w' => Same w e (.slice none 0 0) w' := by
  go_enter Try.func14, Try.ntmps14
  go_wp2_with fail
  refine (names_nil _).mono ?_
  rintro e w1 ⟨rfl, k1⟩
  have HK := Lib.hid k1
  clear k1
  go_wp2
  refine wp_loop_once ?_
  go_wp2
  go_ret
  exact ⟨rfl, HK.out⟩
set_option maxRecDepth 100000 in
set_option maxHeartbeats 2000000 in
theorem print_nil (w : World) : Calls Try.prog 19 #[.pointer none] w fun e w' => Same w e (.string ⟨#[0, 0]⟩) w' := by
  have HN := Lib.hid (new_calls w)
  go_enter Try.func19, Try.ntmps19
  go_wp2_with fail
  refine HN.out.mono ?_
  rintro e w1 ⟨rfl, ht, k1, hz⟩
  have HT := Lib.hid ht
  have HK1 := Lib.hid k1
  have HM : Hid (∀ w', K0 w1 w' → (Builtin.len_ #[54] 3 #[.map (some w.heap.size)]).run Try.prog w' = .ok (.int .i64 0) w') := by
    show ∀ w', _ → _
    intro w' hk
    have := (ht.map.keep hk (fun e => e)).len Try.underlying54 3
    simpa [Tbl.vals] using this
  have c0 : w1.cell? ⟨w.heap.size + 1, 0, none⟩ = some (.int .i64 0) := ht.cell0
  have c1 : w1.cell? ⟨w.heap.size + 1, 1, none⟩ = some (.map (some w.heap.size)) := ht.cell1
  have hlt := ht.lt
  have hln := HM.out w1 (Keeps.refl _ _)
  have hlnd := HM.out w1.drew ((Keeps.refl _ _).drew)
  have hkk : K0 w1 w1.drew := (Keeps.refl _ _).drew
  clear ht k1 hz
  go_wp2_with fail
  go_region_held3 (fun w' => w'.cell? ⟨w.heap.size + 1, 0, none⟩ = some (.int .i64 0) ∧ w'.cell? ⟨w.heap.size + 1, 1, none⟩ = some (.map (some w.heap.size)) ∧ (Builtin.len_ #[54] 3 #[.map (some w.heap.size)]).run Try.prog w' = .ok (.int .i64 0) w' ∧ K0 w1 w')
    (first | go_keep | (go_split_ands; refine ⟨?_, ?_, ?_, ?_⟩ <;> first | assumption | exact Keeps.cell' (by assumption) (by assumption) (fun e => e) | exact K0.tr (by assumption) (by assumption) | exact HM.out _ (K0.tr (by assumption) (by assumption))))
    (first | (go_at_call 27; refine (put0 _).mono ?_; rintro e w' ⟨rfl, hk⟩))
  go_split_ands
  have k2 : K0 w1 w' := by assumption
  have NM := Lib.hid (names_at (HT.out.keep k2 (fun e => e) (fun e => e)) (fun p hp => by cases hp) (Nat.zero_le _))
  have K2 := Lib.hid (K0.tr HK1.out k2)
  have hc : (⟨#[0]⟩ : ByteArray) ++ ⟨#[0]⟩ = ⟨#[0, 0]⟩ := by kernel_rfl
  rw [hc]
  clear k2 hk
  go_wp2_with fail
  refine NM.out.mono ?_
  rintro e w3 ⟨a, c, ss, rfl, hN, k3⟩
  have hss : ss = [] := by
    have := hN.perm
    exact List.perm_nil.1 this
  subst hss
  have K3 := Lib.hid (K0.tr K2.out k3)
  clear hN k3
  go_wp2
  refine wp_loop_once ?_
  go_wp2
  go_ret
  exact ⟨rfl, K3.out⟩
set_option maxRecDepth 100000 in
set_option maxHeartbeats 1000000 in
theorem create_nil (s : ByteArray) (p : Int) (w : World) : Calls Try.prog 10 #[.pointer none, .string s, .int .i64 p] w fun e w' => Same w e (.tuple #[.int .i64 0, .int .i64 1]) w' := by
  go_enter Try.func10, Try.ntmps10
  go_wp2
  go_ret2
  exact ⟨rfl, Keeps.refl _ _⟩
set_option maxRecDepth 100000 in
set_option maxHeartbeats 1000000 in
theorem delete_nil (s : ByteArray) (w : World) : Calls Try.prog 9 #[.pointer none, .string s] w fun e w' => Same w e (.tuple #[.int .i64 0, .int .i64 1]) w' := by
  go_enter Try.func9, Try.ntmps9
  go_wp2_with fail
  refine (find_nil s _).mono ?_
  rintro e w1 ⟨rfl, rfl⟩
  go_wp2
  go_ret2
  exact ⟨rfl, Keeps.refl _ _⟩
theorem tfind_nil (s : ByteArray) (w : World) : Calls Try.prog 11 #[.pointer none, .string s] w fun e w' => Same w e (.tuple #[.int .i64 0, .int .i64 0, .int .i64 1]) w' :=
  (find_nil s w).mono fun e w' hq => ⟨hq.1, by rw [← hq.2]; exact Keeps.refl _ _⟩
set_option maxRecDepth 100000 in
set_option maxHeartbeats 2000000 in
theorem tnil_any (d p : Int) (s : ByteArray) (w : World) : Calls Try.prog 7 #[.agg #[.int .i64 d, .string s, .int .i64 p]] w fun e w' => Same w e (.bool true) w' := by
  have HB : Hid ((w.alloc (.cells #[.int .i64 d, .string s, .int .i64 p] 26)).heap[w.heap.size]? = some (.cells #[.int .i64 d, .string s, .int .i64 p] 26)) := heap_new _ _ _ rfl
  have HK0 : Hid (K0 w (w.alloc (.cells #[.int .i64 d, .string s, .int .i64 p] 26))) := (Keeps.refl (fun _ => False) w).alloc _
  go_enter Try.func7, Try.ntmps7
  go_wp2_with fail
  refine (parse1 _).mono ?_
  rintro e w0 ⟨rfl, k0⟩
  have KK0 := Lib.hid (K0.tr HK0.out k0)
  have B0 : Hid (w0.heap[w.heap.size]? = some (.cells #[.int .i64 d, .string s, .int .i64 p] 26)) := (k0.block _ (block_lt HB.out) (fun e => e)).trans HB.out
  have q0_1 := block_cell B0.out 1
  have q0_2 := block_cell B0.out 2
  have lt0 := block_lt B0.out
  clear k0
  go_wp2_with fail
  refine (create_nil s p _).mono ?_
  rintro e w1 ⟨rfl, k1⟩
  have KK1 := Lib.hid (K0.tr KK0.out k1)
  have B1 : Hid (w1.heap[w.heap.size]? = some (.cells #[.int .i64 d, .string s, .int .i64 p] 26)) := (k1.block _ (block_lt B0.out) (fun e => e)).trans B0.out
  have q1_1 := block_cell B1.out 1
  have q1_2 := block_cell B1.out 2
  have lt1 := block_lt B1.out
  clear k1 q0_1 q0_2 lt0
  go_wp2_with fail
  refine (delete_nil s _).mono ?_
  rintro e w2 ⟨rfl, k2⟩
  have KK2 := Lib.hid (K0.tr KK1.out k2)
  have B2 : Hid (w2.heap[w.heap.size]? = some (.cells #[.int .i64 d, .string s, .int .i64 p] 26)) := (k2.block _ (block_lt B1.out) (fun e => e)).trans B1.out
  have q2_1 := block_cell B2.out 1
  have q2_2 := block_cell B2.out 2
  have lt2 := block_lt B2.out
  clear k2 q1_1 q1_2 lt1
  go_wp2_with fail
  refine (tfind_nil s _).mono ?_
  rintro e w3 ⟨rfl, k3⟩
  have KK3 := Lib.hid (K0.tr KK2.out k3)
  have B3 : Hid (w3.heap[w.heap.size]? = some (.cells #[.int .i64 d, .string s, .int .i64 p] 26)) := (k3.block _ (block_lt B2.out) (fun e => e)).trans B2.out
  have q3_1 := block_cell B3.out 1
  have q3_2 := block_cell B3.out 2
  have lt3 := block_lt B3.out
  clear k3 q2_1 q2_2 lt2
  go_wp2_with fail
  refine (list_nil _).mono ?_
  rintro e w4 ⟨rfl, k4⟩
  have KK4 := Lib.hid (K0.tr KK3.out k4)
  have B4 : Hid (w4.heap[w.heap.size]? = some (.cells #[.int .i64 d, .string s, .int .i64 p] 26)) := (k4.block _ (block_lt B3.out) (fun e => e)).trans B3.out
  have q4_1 := block_cell B4.out 1
  have q4_2 := block_cell B4.out 2
  have lt4 := block_lt B4.out
  clear k4 q3_1 q3_2 lt3
  go_wp2_with fail
  refine (print_nil _).mono ?_
  rintro e w5 ⟨rfl, k5⟩
  have KK5 := Lib.hid (K0.tr KK4.out k5)
  have B5 : Hid (w5.heap[w.heap.size]? = some (.cells #[.int .i64 d, .string s, .int .i64 p] 26)) := (k5.block _ (block_lt B4.out) (fun e => e)).trans B4.out
  have q5_1 := block_cell B5.out 1
  have q5_2 := block_cell B5.out 2
  have lt5 := block_lt B5.out
  clear k5 q4_1 q4_2 lt4
  go_wp2_with fail
  refine (live_any _).mono ?_
  rintro e wz ⟨rfl, kz⟩
  have HF := Lib.hid (K0.tr KK5.out kz)
  clear kz
  go_wp2
  go_ret
  exact ⟨rfl, HF.out⟩
end Go.Proofs.Ytegbiekfpcfnnaa
