/-
  A disk and the document's disk: the same files, there in the order of their names.
-/
import Derived.Test.YtjfblcmpdcbpgaaEa
import Derived.Sort.Walk0
namespace Go.Proofs.Ytjfblcmpdcbpgaa
open Go.RowKit Fx

def bltB (a b : ByteArray) : Bool := Op.bytesLess a.toList b.toList
theorem blt_iff (a b : ByteArray) : bltB a b = true ↔ a.data.toList < b.data.toList := by
  unfold bltB
  rw [bytesLess_eq, ByteArray.toList_eq, ByteArray.toList_eq]
  simp
theorem data_inj {a b : ByteArray} (h : a.data.toList = b.data.toList) : a = b := by
  cases a; cases b
  simp only [ByteArray.mk.injEq]
  exact Array.toList_inj.1 h
theorem blt_irrefl (a : ByteArray) : bltB a a = false := by
  have : ¬ bltB a a = true := fun h => List.lt_irrefl _ ((blt_iff a a).1 h)
  simpa using this
theorem blt_trans {a b c : ByteArray} (h1 : bltB a b = true) (h2 : bltB b c = true) : bltB a c = true :=
  (blt_iff a c).2 (List.lt_trans ((blt_iff a b).1 h1) ((blt_iff b c).1 h2))
theorem blt_total {a b : ByteArray} (h : a ≠ b) (h1 : bltB a b = false) : bltB b a = true := by
  refine (blt_iff b a).2 ?_
  have h2 : ¬ a.data.toList < b.data.toList := fun e => by rw [(blt_iff a b).2 e] at h1; cases h1
  have h3 : b.data.toList ≤ a.data.toList := List.not_lt.1 h2
  exact Classical.byContradiction fun h4 => h (data_inj (List.le_antisymm (List.not_lt.1 h4) h3))
/-- The names of a list. -/
def keysF (l : List (ByteArray × FileC)) : List ByteArray := l.map (·.1)
def SortF (l : List (ByteArray × FileC)) : Prop := (keysF l).Pairwise fun a b => bltB a b = true
/-- A file laid in its place. -/
def insS (l : List (ByteArray × FileC)) (s : ByteArray) (x : FileC) : List (ByteArray × FileC) := l.takeWhile (fun p => bltB p.1 s) ++ (s, x) :: l.dropWhile fun p => bltB p.1 s
theorem SortF.kd {l : List (ByteArray × FileC)} (h : SortF l) : KD l := by
  unfold KD
  refine List.Pairwise.imp ?_ h
  intro a b hab e
  subst e
  rw [blt_irrefl] at hab
  cases hab
theorem aget_append {l1 l2 : List (ByteArray × FileC)} (u : ByteArray) : aget (l1 ++ l2) u = (aget l1 u).or (aget l2 u) := by
  induction l1 with
  | nil => rfl
  | cons p l ih =>
    obtain ⟨k, v⟩ := p
    simp only [List.cons_append, aget]
    split
    · rfl
    · exact ih
theorem aget_isSome {l : List (ByteArray × FileC)} {s : ByteArray} : (aget l s).isSome = true ↔ s ∈ keysF l := by
  constructor
  · intro h
    obtain ⟨x, hx⟩ := Option.isSome_iff_exists.1 h
    exact List.mem_map.2 ⟨_, aget_in hx, rfl⟩
  · intro h
    cases hx : aget l s with
    | some x => rfl
    | none =>
      obtain ⟨p, hp, e⟩ := List.mem_map.1 h
      exact absurd e (aget_none hx p hp)
theorem keysF_append (l1 l2 : List (ByteArray × FileC)) : keysF (l1 ++ l2) = keysF l1 ++ keysF l2 := List.map_append
theorem aget_insS {l : List (ByteArray × FileC)} {s : ByteArray} (h : aget l s = none) (x : FileC) (u : ByteArray) : aget (insS l s x) u = if s = u then some x else aget l u := by
  have h0 : aget l u = aget (l.takeWhile (fun p => bltB p.1 s) ++ l.dropWhile fun p => bltB p.1 s) u := by rw [List.takeWhile_append_dropWhile]
  have hn : aget (l.takeWhile fun p => bltB p.1 s) s = none := by
    cases hx : aget (l.takeWhile fun p => bltB p.1 s) s with
    | none => rfl
    | some y => exact absurd rfl (aget_none h _ ((List.takeWhile_sublist _).subset (aget_in hx)))
  rw [h0]
  unfold insS
  rw [aget_append, aget_append]
  by_cases e : s = u
  · subst e
    rw [if_pos rfl, hn]
    simp [aget]
  · rw [if_neg e]
    simp [aget, e]
theorem takeWhile_all {l : List (ByteArray × FileC)} {s : ByteArray} : ∀ p ∈ l.takeWhile (fun p => bltB p.1 s), bltB p.1 s = true := by
  intro p hp
  exact List.all_eq_true.1 (List.all_takeWhile (p := fun p : ByteArray × FileC => bltB p.1 s) (l := l)) p hp
theorem dropWhile_all {s : ByteArray} : ∀ {l : List (ByteArray × FileC)}, SortF l → aget l s = none → ∀ p ∈ l.dropWhile (fun p => bltB p.1 s), bltB s p.1 = true
  | [], _, _, p, hp => by cases hp
  | q :: l, hs, hn, p, hp => by
    have hs' : SortF l := (List.pairwise_cons.1 hs).2
    have hq : q.1 ≠ s := aget_none hn q (List.mem_cons_self ..)
    have hn' : aget l s = none := by
      obtain ⟨k, v⟩ := q
      simp only [aget] at hn
      rw [if_neg hq] at hn
      exact hn
    rw [List.dropWhile_cons] at hp
    split at hp
    · exact dropWhile_all hs' hn' p hp
    · rename_i h1
      have h2 : bltB s q.1 = true := blt_total hq (by simpa using h1)
      rcases List.mem_cons.1 hp with rfl | hp
      · exact h2
      · exact blt_trans h2 ((List.pairwise_cons.1 hs).1 p.1 (List.mem_map.2 ⟨p, hp, rfl⟩))
theorem SortF.ins {l : List (ByteArray × FileC)} (h : SortF l) {s : ByteArray} (hn : aget l s = none) (x : FileC) : SortF (insS l s x) := by
  have h0 : SortF (l.takeWhile (fun p => bltB p.1 s) ++ l.dropWhile fun p => bltB p.1 s) := by rw [List.takeWhile_append_dropWhile]; exact h
  unfold SortF insS at *
  rw [keysF_append] at h0 ⊢
  obtain ⟨h1, h2, h3⟩ := List.pairwise_append.1 h0
  refine List.pairwise_append.2 ⟨h1, List.pairwise_cons.2 ⟨fun a ha => ?_, h2⟩, fun a ha b hb => ?_⟩
  · obtain ⟨p, hp, rfl⟩ := List.mem_map.1 ha
    exact dropWhile_all h hn p hp
  · rcases List.mem_cons.1 hb with rfl | hb
    · obtain ⟨p, hp, rfl⟩ := List.mem_map.1 ha
      exact takeWhile_all p hp
    · exact h3 a ha b hb
theorem keys_aput {l : List (ByteArray × FileC)} {s : ByteArray} (h : (aget l s).isSome = true) (x : FileC) : keysF (aput l s x) = keysF l := by
  induction l with
  | nil => cases h
  | cons p l ih =>
    obtain ⟨k, v⟩ := p
    simp only [aget] at h
    simp only [aput]
    by_cases e : k = s
    · rw [if_pos e]; simp [keysF, e]
    · rw [if_neg e] at h ⊢
      have := ih h
      simp only [keysF, List.map_cons] at this ⊢
      rw [this]
theorem SortF.put {l : List (ByteArray × FileC)} (h : SortF l) {s : ByteArray} (hs : (aget l s).isSome = true) (x : FileC) : SortF (aput l s x) := by
  unfold SortF
  rw [keys_aput hs]
  exact h
theorem adel_sub (l : List (ByteArray × FileC)) (s : ByteArray) : (adel l s).Sublist l := by
  induction l with
  | nil => exact List.Sublist.refl _
  | cons p l ih =>
    obtain ⟨k, v⟩ := p
    simp only [adel]
    split
    · exact List.sublist_cons_self _ _
    · exact ih.cons_cons _
theorem SortF.del {l : List (ByteArray × FileC)} (h : SortF l) (s : ByteArray) : SortF (adel l s) := List.Pairwise.sublist ((adel_sub l s).map _) h
/-- The program's disk, and the document's. -/
structure Sim (D R : DiskC) : Prop where
  room : R.room = D.room
  used : R.used = D.used
  fuse : R.fuse = D.fuse
  get : ∀ s, aget R.files s = aget D.files s
  ord : SortF R.files
section
variable {D R : DiskC}
theorem Sim.old (h : Sim D R) (s : ByteArray) : oldF R s = oldF D s := by unfold oldF; rw [h.get]
theorem Sim.fileE (h : Sim D R) (s : ByteArray) : fileE R s = fileE D s := by unfold Go.Proofs.Ytjfblcmpdcbpgaa.fileE; rw [h.get, h.fuse]
theorem Sim.readV (h : Sim D R) (s : ByteArray) : dreadV R s = dreadV D s := by unfold dreadV; rw [h.fileE, h.old]
theorem Sim.appE (h : Sim D R) (s t : ByteArray) : dappE R s t = dappE D s t := by unfold dappE; rw [h.fuse, h.used, h.room]
theorem Sim.cutE (h : Sim D R) (s : ByteArray) (n : Int) : dcutE R s n = dcutE D s n := by unfold dcutE; rw [h.fileE, h.old]
theorem Sim.renE (h : Sim D R) (s t : ByteArray) : drenE R s t = drenE D s t := by unfold drenE; rw [h.fileE]
theorem Sim.perm (h : Sim D R) (wf : WfD D) : R.files.Perm D.files := perm_same h.ord.kd wf.keys h.get
theorem Sim.wf (h : Sim D R) (wf : WfD D) : WfD R :=
  ⟨by rw [h.room]; exact wf.room, by rw [h.used, wf.used]; exact congrArg Nat.cast (((h.perm wf).map _).sum_nat).symm, by rw [h.used, h.room]; exact wf.most, fun s x e => wf.safe s x (by rw [← h.get]; exact e), by rw [h.fuse]; exact wf.fuse, h.ord.kd, fun s x e => wf.names s x (by rw [← h.get]; exact e)⟩
theorem Sim.burn (h : Sim D R) : Sim (burn D) (burn R) := by
  refine ⟨h.room, h.used, ?_, h.get, h.ord⟩
  show (if 0 < R.fuse then R.fuse - 1 else R.fuse) = if 0 < D.fuse then D.fuse - 1 else D.fuse
  rw [h.fuse]
/-- A file there has turned. -/
theorem Sim.put (h : Sim D R) {s : ByteArray} (hs : (aget D.files s).isSome = true) (x : FileC) (u : Int) : Sim ⟨D.room, u, D.fuse, aput D.files s x⟩ ⟨R.room, u, R.fuse, aput R.files s x⟩ :=
  ⟨h.room, rfl, h.fuse, fun t => by show aget (aput R.files s x) t = aget (aput D.files s x) t; rw [aget_aput, aget_aput, h.get], h.ord.put (by rw [h.get]; exact hs) x⟩
def rput (l : List (ByteArray × FileC)) (s : ByteArray) (x : FileC) : List (ByteArray × FileC) := if (aget l s).isSome = true then aput l s x else insS l s x
def rappC (R : DiskC) (s t : ByteArray) : DiskC := if dappE R s t = 0 then burn ⟨R.room, R.used + t.size, R.fuse, rput R.files s ⟨(oldF R s).bytes ++ t, (oldF R s).safe⟩⟩ else R
theorem Sim.app (h : Sim D R) (s t : ByteArray) : Sim (dappC D s t) (rappC R s t) := by
  unfold dappC rappC
  rw [h.appE, h.old]
  split
  · refine Sim.burn ⟨h.room, by show R.used + t.size = D.used + t.size; rw [h.used], h.fuse, fun u => ?_, ?_⟩
    · show aget (rput R.files s _) u = aget (aput D.files s _) u
      unfold rput
      split
      · rw [aget_aput, aget_aput, h.get]
      · rename_i hn
        rw [aget_insS (by simpa using hn), aget_aput, h.get]
    · show SortF (rput R.files s _)
      unfold rput
      split
      · rename_i hs; exact h.ord.put hs _
      · rename_i hn; exact h.ord.ins (by simpa using hn) _
  · exact h
theorem fileE_some {D : DiskC} {s : ByteArray} (h : Go.Proofs.Ytjfblcmpdcbpgaa.fileE D s = 0) : (aget D.files s).isSome = true := by
  obtain ⟨x, hx⟩ := fileE_zero h
  rw [hx]
  rfl
theorem Sim.sync (h : Sim D R) (s : ByteArray) : Sim (dsyncC D s) (dsyncC R s) := by
  unfold dsyncC
  rw [h.fileE, h.old]
  split
  · rename_i he
    have := h.put (fileE_some he) ⟨(oldF D s).bytes, (oldF D s).bytes.size⟩ D.used
    rw [← h.used] at this
    exact Sim.burn ⟨this.room, h.used, this.fuse, this.get, this.ord⟩
  · exact h
theorem Sim.keepD (h : Sim D R) {s : ByteArray} (hs : (aget D.files s).isSome = true) (n : Nat) : Sim (keepD D s n) (keepD R s n) := by
  unfold Go.Proofs.Ytjfblcmpdcbpgaa.keepD
  rw [h.old, h.used]
  exact h.put hs _ _
theorem Sim.cut (h : Sim D R) (s : ByteArray) (n : Int) : Sim (dcutC D s n) (dcutC R s n) := by
  unfold dcutC
  rw [h.cutE]
  split
  · rename_i he
    refine (h.keepD (fileE_some ?_) n.toNat).burn
    unfold dcutE at he
    split at he
    · rename_i h1; exact h1
    · rename_i h1; exact absurd he h1
  · exact h
theorem Sim.drop (h : Sim D R) (wf : WfD D) (s : ByteArray) : Sim (ddropC D s) (ddropC R s) := by
  unfold ddropC
  rw [h.fileE, h.old, h.used]
  split
  · exact Sim.burn ⟨h.room, rfl, h.fuse, fun u => by show aget (adel R.files s) u = aget (adel D.files s) u; rw [aget_adel h.ord.kd, aget_adel wf.keys, h.get], h.ord.del s⟩
  · exact h
theorem Sim.dfuse (h : Sim D R) (n : Int) : Sim (dfuseC D n) (dfuseC R n) := by
  unfold dfuseC
  split
  · exact h
  · exact ⟨h.room, h.used, rfl, h.get, h.ord⟩
/-- A new name: what was there goes. -/
def rrenC (R : DiskC) (s t : ByteArray) : DiskC := if drenE R s t = 0 then burn ⟨R.room, (clearD R s t).used, R.fuse, insS (adel (adel R.files s) t) t (oldF R s)⟩ else R
theorem Sim.clear_used (h : Sim D R) (s t : ByteArray) : (clearD R s t).used = (clearD D s t).used := by
  unfold clearD
  rw [h.get]
  split
  · show R.used - _ = D.used - _
    rw [h.old, h.used]
  · exact h.used
theorem clear_room (D : DiskC) (s t : ByteArray) : (clearD D s t).room = D.room ∧ (clearD D s t).fuse = D.fuse ∧ ∀ u, u ≠ t → aget (clearD D s t).files u = aget D.files u := by
  unfold clearD
  split
  · refine ⟨rfl, rfl, fun u hu => ?_⟩
    show aget (aput D.files t _) u = _
    rw [aget_aput, if_neg (Ne.symm hu)]
  · exact ⟨rfl, rfl, fun u _ => rfl⟩
theorem clear_kd {D : DiskC} (wf : WfD D) (s t : ByteArray) : KD (clearD D s t).files := by
  unfold clearD
  split
  · exact wf.keys.put _ _
  · exact wf.keys
theorem Sim.ren (h : Sim D R) (wf : WfD D) (s t : ByteArray) : Sim (drenC D s t) (rrenC R s t) := by
  unfold drenC rrenC
  rw [h.renE, h.old]
  split
  · obtain ⟨c1, c2, c3⟩ := clear_room D s t
    have hk := h.ord.kd.del s
    have hn : aget (adel (adel R.files s) t) t = none := by rw [aget_adel hk, if_pos rfl]
    refine Sim.burn ⟨h.room.trans c1.symm, h.clear_used s t, h.fuse.trans c2.symm, fun u => ?_, (((h.ord.del s).del t).ins hn _)⟩
    show aget (insS (adel (adel R.files s) t) t _) u = aget (aput (adel (clearD D s t).files s) t _) u
    rw [aget_insS hn, aget_aput, aget_adel hk, aget_adel h.ord.kd, aget_adel (clear_kd wf s t)]
    by_cases e : t = u
    · rw [if_pos e, if_pos e]
    · rw [if_neg e, if_neg e, if_neg e]
      split
      · rfl
      · rw [c3 u (Ne.symm e), h.get]
  · exact h
theorem Sim.safeD (h : Sim D R) {s : ByteArray} (hs : (aget D.files s).isSome = true) : Sim (safeD D s) (safeD R s) := by
  unfold Go.Proofs.Ytjfblcmpdcbpgaa.safeD
  rw [h.old]
  have := h.put hs ⟨(oldF D s).bytes, (oldF D s).bytes.size⟩ D.used
  exact ⟨this.room, h.used, this.fuse, this.get, this.ord⟩
theorem keepD_some {D : DiskC} {s : ByteArray} {n : Nat} : (aget (Go.Proofs.Ytjfblcmpdcbpgaa.keepD D s n).files s).isSome = true := by
  show (aget (aput D.files s _) s).isSome = true
  rw [aget_aput, if_pos rfl]
  rfl
theorem Sim.crashS {n : Nat} (keep : List Int) (h : Sim D R) {s : ByteArray} (hs : (aget D.files s).isSome = true) : Sim (crashS keep (D, n) s).1 (crashS keep (R, n) s).1 ∧ (crashS keep (D, n) s).2 = (crashS keep (R, n) s).2 := by
  unfold Go.Proofs.Ytjfblcmpdcbpgaa.crashS
  simp only
  rw [h.old]
  split
  · exact ⟨h, rfl⟩
  · exact ⟨(h.keepD hs _).safeD keepD_some, rfl⟩
theorem Sim.crashF (keep : List Int) : ∀ (l : List ByteArray) {D R : DiskC} {n : Nat}, Sim D R → WfD D → (∀ s ∈ l, (aget D.files s).isSome = true) → Sim (l.foldl (Go.Proofs.Ytjfblcmpdcbpgaa.crashS keep) (D, n)).1 (l.foldl (Go.Proofs.Ytjfblcmpdcbpgaa.crashS keep) (R, n)).1 ∧ (l.foldl (Go.Proofs.Ytjfblcmpdcbpgaa.crashS keep) (D, n)).2 = (l.foldl (Go.Proofs.Ytjfblcmpdcbpgaa.crashS keep) (R, n)).2
  | [], _, _, _, h, _, _ => ⟨h, rfl⟩
  | s :: l, D, R, n, h, wf, hl => by
    have hs := hl s (List.mem_cons_self ..)
    obtain ⟨h1, h2⟩ := Sim.crashS (n := n) keep h hs
    obtain ⟨x, hx⟩ := Option.isSome_iff_exists.1 hs
    obtain ⟨w1, w2⟩ := crashS_ok (keep := keep) (p := (D, n)) (s := s) wf hx
    rw [List.foldl_cons, List.foldl_cons]
    have e1 : Go.Proofs.Ytjfblcmpdcbpgaa.crashS keep (D, n) s = ((Go.Proofs.Ytjfblcmpdcbpgaa.crashS keep (D, n) s).1, (Go.Proofs.Ytjfblcmpdcbpgaa.crashS keep (D, n) s).2) := rfl
    have e2 : Go.Proofs.Ytjfblcmpdcbpgaa.crashS keep (R, n) s = ((Go.Proofs.Ytjfblcmpdcbpgaa.crashS keep (R, n) s).1, (Go.Proofs.Ytjfblcmpdcbpgaa.crashS keep (D, n) s).2) := by rw [h2]
    rw [e1, e2]
    exact Sim.crashF keep l h1 w1 fun t ht => by rw [w2 t]; exact hl t (List.mem_cons_of_mem _ ht)
theorem Sim.crash (keep : List Int) (h : Sim D R) (wf : WfD D) : Sim (upD (crashL keep D (keysF R.files)).1) (upD (crashL keep R (keysF R.files)).1) ∧ (crashL keep D (keysF R.files)).2 = (crashL keep R (keysF R.files)).2 := by
  obtain ⟨h1, h2⟩ := Sim.crashF (n := 0) keep (keysF R.files) h wf fun s hs => by rw [← h.get]; exact aget_isSome.2 hs
  exact ⟨⟨h1.room, h1.used, rfl, h1.get, h1.ord⟩, h2⟩
/-- The names in order are the document's. -/
theorem Sim.names (h : Sim D R) (wf : WfD D) {ss : List ByteArray} (hp : ss.Perm (keysF D.files)) (ho : (ss.map fun s => s.data.toList).Pairwise fun x y => x ≤ y) : ss = keysF R.files := by
  have h1 : ss.Perm (keysF R.files) := hp.trans ((h.perm wf).map _).symm
  have h2 : ((keysF R.files).map fun s => s.data.toList).Pairwise fun x y => x ≤ y := by
    refine List.pairwise_map.2 (List.Pairwise.imp ?_ h.ord)
    intro a b hab
    exact List.le_of_lt ((blt_iff a b).1 hab)
  have h3 := List.Perm.eq_of_pairwise (le := fun x y : List UInt8 => x ≤ y) (fun a b _ _ h1 h2 => List.le_antisymm h1 h2) ho h2 (h1.map _)
  exact (List.map_inj_right fun a b e => data_inj e).1 h3
end
end Go.Proofs.Ytjfblcmpdcbpgaa
