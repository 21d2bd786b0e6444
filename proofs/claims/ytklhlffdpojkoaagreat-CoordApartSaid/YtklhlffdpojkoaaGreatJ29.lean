/-
  Both coordinators in plain Lean: they hold the same groups, and answer alike; kept by each call.
-/
import Derived.Test.YtklhlffdpojkoaaGreatJ25
import Derived.Test.YtklhlffdpojkoaaGreatJ27
import Derived.Test.YtklhlffdpojkoaaGreatJ28
import Derived.Deep.RegionHeld3
import Derived.BigRegion
namespace Go.Proofs.YtklhlffdpojkoaaGreat
open Go.RowKit Fx

theorem slt_iff (a b : ByteArray) : sltB a b = true ↔ a.data.toList < b.data.toList := by
  unfold sltB
  rw [bytesLess_eq, ByteArray.toList_eq, ByteArray.toList_eq]
  simp
theorem sdata_inj {a b : ByteArray} (h : a.data.toList = b.data.toList) : a = b := by
  cases a; cases b
  simp only [ByteArray.mk.injEq]
  exact Array.toList_inj.1 h
theorem slt_irrefl (a : ByteArray) : ¬ sltB a a = true := fun h => List.lt_irrefl _ ((slt_iff a a).1 h)
theorem slt_trans {a b c : ByteArray} (h1 : sltB a b = true) (h2 : sltB b c = true) : sltB a c = true :=
  (slt_iff a c).2 (List.lt_trans ((slt_iff a b).1 h1) ((slt_iff b c).1 h2))
theorem slt_total {a b : ByteArray} (h : a ≠ b) (h1 : ¬ sltB a b = true) : sltB b a = true := by
  refine (slt_iff b a).2 ?_
  have h2 : ¬ a.data.toList < b.data.toList := fun e => h1 ((slt_iff a b).2 e)
  have h3 : b.data.toList ≤ a.data.toList := List.not_lt.1 h2
  exact Classical.byContradiction fun h4 => h (sdata_inj (List.le_antisymm (List.not_lt.1 h4) h3))
abbrev GsL := List (ByteArray × GroupC)
theorem aput_keys {l : GsL} {s : ByteArray} {g : GroupC} (h : aget l s = some g) (x : GroupC) : (aput l s x).map (·.1) = l.map (·.1) := by
  induction l with
  | nil => simp [aget] at h
  | cons p l ih =>
    obtain ⟨k, u⟩ := p
    simp only [aget] at h
    by_cases hk : k = s
    · rw [if_pos hk] at h
      simp [aput, hk]
    · rw [if_neg hk] at h
      simp only [aput, if_neg hk, List.map_cons, ih h]
theorem put_permG {l : GsL} {s : ByteArray} (h : aget l s = none) (x : GroupC) (k : Nat) : (aput l s x).Perm (l.take k ++ (s, x) :: l.drop k) := by
  rw [aput_new h]
  refine (List.perm_append_singleton (s, x) l).trans ?_
  refine List.Perm.trans ?_ List.perm_middle.symm
  rw [List.take_append_drop]
theorem kd_permG {l1 l2 : GsL} (hd : KD l1) (hp : l1.Perm l2) : KD l2 := by
  unfold KD at hd ⊢
  exact (hp.map (·.1)).nodup_iff.1 hd
theorem aget_permG {l1 l2 : GsL} (hd : KD l1) (hp : l1.Perm l2) (u : ByteArray) : aget l2 u = aget l1 u := by
  have hd2 : KD l2 := kd_permG hd hp
  cases h : aget l1 u with
  | none =>
    refine aget_out fun hm => ?_
    obtain ⟨p, hq, e⟩ := List.mem_map.1 hm
    exact aget_none h p (hp.mem_iff.2 hq) e
  | some v => exact aget_of_mem hd2 (hp.mem_iff.1 (aget_in h))
def SrtG (l : GsL) : Prop := (l.map (·.1)).Pairwise fun a b => sltB a b = true
theorem SrtG.insert {l : GsL} (h : SrtG l) {s : ByteArray} (hn : aget l s = none) (x : GroupC) : SrtG (l.take (insAt l s) ++ (s, x) :: l.drop (insAt l s)) := by
  have ht : l.take (insAt l s) = l.takeWhile fun p => sltB p.1 s := by
    unfold insAt
    conv => lhs; rw [← List.takeWhile_append_dropWhile (p := fun p : ByteArray × GroupC => sltB p.1 s) (l := l)]
    rw [List.take_left' (by rw [List.takeWhile_append_dropWhile])]
  have hd : l.drop (insAt l s) = l.dropWhile fun p => sltB p.1 s := by
    unfold insAt
    conv => lhs; rw [← List.takeWhile_append_dropWhile (p := fun p : ByteArray × GroupC => sltB p.1 s) (l := l)]
    rw [List.drop_left' (by rw [List.takeWhile_append_dropWhile])]
  rw [ht, hd]
  unfold SrtG at h ⊢
  have hs : l = (l.takeWhile fun p => sltB p.1 s) ++ l.dropWhile fun p => sltB p.1 s := List.takeWhile_append_dropWhile.symm
  rw [hs, List.map_append, List.pairwise_append] at h
  obtain ⟨h1, h2, h3⟩ := h
  have hlo : ∀ a ∈ (l.takeWhile fun p => sltB p.1 s).map (·.1), sltB a s = true := fun a ha => by
    obtain ⟨p, hp, rfl⟩ := List.mem_map.1 ha
    exact List.all_eq_true.1 (List.all_takeWhile (p := fun p : ByteArray × GroupC => sltB p.1 s) (l := l)) p hp
  have hhi : ∀ b ∈ (l.dropWhile fun p => sltB p.1 s).map (·.1), sltB s b = true := fun b hb => by
    cases hl : l.dropWhile (fun p => sltB p.1 s) with
    | nil => rw [hl] at hb; simp at hb
    | cons p r =>
      have hp : ¬ sltB p.1 s = true := by
        have := List.head?_dropWhile_not (fun p : ByteArray × GroupC => sltB p.1 s) l
        rw [hl] at this
        simpa using this
      have hpm : p ∈ l := List.dropWhile_subset _ (by rw [hl]; exact List.mem_cons_self ..)
      have hps : sltB s p.1 = true := slt_total (aget_none hn p hpm) hp
      rw [hl] at hb h2
      rw [List.map_cons, List.mem_cons] at hb
      rcases hb with rfl | hb
      · exact hps
      · rw [List.map_cons, List.pairwise_cons] at h2
        exact slt_trans hps (h2.1 b hb)
  rw [List.map_append, List.map_cons, List.pairwise_append, List.pairwise_cons]
  refine ⟨h1, ⟨hhi, h2⟩, fun a ha b hb => ?_⟩
  rw [List.mem_cons] at hb
  rcases hb with rfl | hb
  · exact hlo a ha
  · exact slt_trans (hlo a ha) (hhi b hb)
/-- Both coordinators are well, and hold the same; n: so much room is left. -/
structure GoodC (C R : CoordC) (n : Nat) : Prop where
  s : C.s = R.s
  r : C.r = R.r
  sb : 1 ≤ C.s ∧ C.s ≤ 100000
  rb : 1 ≤ C.r ∧ C.r ≤ 100000
  kc : KD C.gs
  kr : KD R.gs
  look : ∀ u, aget C.gs u = aget R.gs u
  len : C.gs.length = R.gs.length
  le : R.gs.length ≤ 20
  ord : SrtG R.gs
  nm : ∀ p ∈ R.gs, p.1.size ≤ 100
  ok : ∀ p ∈ R.gs, Ok n p.2 ∧ PhG p.2
  big : n ≤ 1000000
  off : SimO C.off R.off
section
variable {C R : CoordC} {n m : Nat} {s : ByteArray}
theorem GoodC.mono (h : GoodC C R n) (hm : m ≤ n) : GoodC C R m :=
  ⟨h.s, h.r, h.sb, h.rb, h.kc, h.kr, h.look, h.len, h.le, h.ord, h.nm, fun p hp => ⟨(h.ok p hp).1.le hm, (h.ok p hp).2⟩, by have := h.big; omega, h.off⟩
theorem GoodC.perm (h : GoodC C R n) : C.gs.Perm R.gs := y_perm_same h.kc h.kr h.look
theorem GoodC.cok (h : GoodC C R n) : COk n C := fun u g e => by
  rw [h.look] at e
  exact (h.ok _ (aget_in e)).1
theorem GoodC.rok (h : GoodC C R n) : ∀ g, aget R.gs s = some g → Ok n g := fun _g e => (h.ok _ (aget_in e)).1
theorem GoodC.okC (h : GoodC C R n) : ∀ p ∈ C.gs, Ok n p.2 ∧ PhG p.2 := fun p hp => h.ok p (h.perm.mem_iff.1 hp)
theorem GoodC.nmC (h : GoodC C R n) : ∀ p ∈ C.gs, p.1.size ≤ 100 := fun p hp => h.nm p (h.perm.mem_iff.1 hp)
/-- One group has turned on both sides. -/
theorem GoodC.turn (h : GoodC C R n) {g g' : GroupC} (e : aget R.gs s = some g) (h1 : Ok m g') (h2 : PhG g') (hm : m ≤ n) : GoodC ⟨C.s, C.r, aput C.gs s g', C.off⟩ ⟨R.s, R.r, aput R.gs s g', R.off⟩ m := by
  have ec : aget C.gs s = some g := (h.look s).trans e
  have kC := aput_keys ec g'
  have kR := aput_keys e g'
  have lC : (aput C.gs s g').length = C.gs.length := by have := congrArg List.length kC; simpa using this
  have lR : (aput R.gs s g').length = R.gs.length := by have := congrArg List.length kR; simpa using this
  refine ⟨h.s, h.r, h.sb, h.rb, ?_, ?_, fun u => ?_, ?_, ?_, ?_, fun p hp => ?_, fun p hp => ?_, by have := h.big; omega, h.off⟩
  · unfold KD; show ((aput C.gs s g').map (·.1)).Nodup; rw [kC]; exact h.kc
  · unfold KD; show ((aput R.gs s g').map (·.1)).Nodup; rw [kR]; exact h.kr
  · show aget (aput C.gs s g') u = aget (aput R.gs s g') u
    rw [aget_aput, aget_aput, h.look]
  · show (aput C.gs s g').length = (aput R.gs s g').length
    rw [lC, lR, h.len]
  · show (aput R.gs s g').length ≤ 20
    rw [lR]; exact h.le
  · unfold SrtG; show ((aput R.gs s g').map (·.1)).Pairwise _; rw [kR]; exact h.ord
  · have hk : p.1 ∈ (aput R.gs s g').map (·.1) := List.mem_map.2 ⟨p, hp, rfl⟩
    rw [kR] at hk
    obtain ⟨q, hq, e⟩ := List.mem_map.1 hk
    rw [← e]; exact h.nm q hq
  · rcases mem_aputG hp with rfl | hp
    · exact ⟨h1, h2⟩
    · exact ⟨(h.ok p hp).1.le hm, (h.ok p hp).2⟩
/-- One group more on both sides. -/
theorem GoodC.more (h : GoodC C R n) {g' : GroupC} (e : aget R.gs s = none) (hf : R.gs.length < 20) (hs : s.size ≤ 100) (h1 : Ok m g') (h2 : PhG g') (hm : m ≤ n) : GoodC ⟨C.s, C.r, aput C.gs s g', C.off⟩ ⟨R.s, R.r, rcput R.gs s g', R.off⟩ m := by
  have ec : aget C.gs s = none := (h.look s).trans e
  have hr : rcput R.gs s g' = R.gs.take (insAt R.gs s) ++ (s, g') :: R.gs.drop (insAt R.gs s) := by unfold rcput; rw [e]; rfl
  have hp := put_permG e g' (insAt R.gs s)
  have hkd : KD (aput R.gs s g') := h.kr.put s g'
  refine ⟨h.s, h.r, h.sb, h.rb, h.kc.put s g', ?_, fun u => ?_, ?_, ?_, ?_, fun p hm2 => ?_, fun p hm2 => ?_, by have := h.big; omega, h.off⟩
  · show KD (rcput R.gs s g'); rw [hr]; exact kd_permG hkd hp
  · show aget (aput C.gs s g') u = aget (rcput R.gs s g') u
    rw [hr, aget_permG hkd hp, aget_aput, aget_aput, h.look]
  · show (aput C.gs s g').length = (rcput R.gs s g').length
    rw [hr, ← hp.length_eq, aput_new ec, aput_new e]
    simp [h.len]
  · show (rcput R.gs s g').length ≤ 20
    rw [hr, ← hp.length_eq, aput_new e]
    simp; omega
  · show SrtG (rcput R.gs s g'); rw [hr]; exact h.ord.insert e g'
  · have hm3 : p ∈ aput R.gs s g' := hp.mem_iff.2 (by rw [← hr]; exact hm2)
    rcases mem_aputG hm3 with rfl | hm3
    · exact hs
    · exact h.nm p hm3
  · have hm3 : p ∈ aput R.gs s g' := hp.mem_iff.2 (by rw [← hr]; exact hm2)
    rcases mem_aputG hm3 with rfl | hm3
    · exact ⟨h1, h2⟩
    · exact ⟨(h.ok p hm3).1.le hm, (h.ok p hm3).2⟩
theorem GoodC.leaveE (h : GoodC C R n) (m now : Int) : cleaveE C s m now = cleaveE R s m now := by unfold cleaveE; rw [h.look]
theorem GoodC.leave (h : GoodC C R (n + 1)) (m now : Int) : GoodC (cleaveC C s m now) (cleaveC R s m now) n := by
  unfold cleaveC
  rw [h.look]
  cases e : aget R.gs s with
  | none => exact h.mono (by omega)
  | some g =>
    have := h.ok _ (aget_in e)
    exact h.turn e (this.1.leave m now) (this.2.leave m now) (by omega)
theorem GoodC.beatE (h : GoodC C R n) (m gn now : Int) : cbeatE C s m gn now = rcbeatE R s m gn now := by
  unfold cbeatE rcbeatE
  rw [h.look]
  cases e : aget R.gs s with
  | none => rfl
  | some g => exact (beat_same (h.ok _ (aget_in e)).2 m gn now).symm
theorem GoodC.beat (h : GoodC C R n) (m gn now : Int) : GoodC (cbeatC C s m gn now) (rcbeatC R s m gn now) n := by
  unfold cbeatC rcbeatC
  rw [h.look]
  cases e : aget R.gs s with
  | none => exact h
  | some g =>
    have := h.ok _ (aget_in e)
    exact h.turn e (this.1.beat m gn now) (this.2.beat m gn now) (Nat.le_refl _)
theorem GoodC.mayE (h : GoodC C R n) (m gn : Int) : cmayE C s m gn = cmayE R s m gn := by unfold cmayE; rw [h.look]
theorem GoodC.syncE (h : GoodC C R n) (m gn : Int) (tops : List TopC) (now : Int) : csyncE C s m gn tops now = csyncE R s m gn tops now := by unfold csyncE; rw [h.look]
theorem GoodC.syncP (h : GoodC C R n) (m gn : Int) (tops : List TopC) (round : Bool) (now : Int) : csyncP C s m gn tops round now = csyncP R s m gn tops round now := by unfold csyncP; rw [h.look]
theorem GoodC.sync (h : GoodC C R n) (m gn : Int) (tops : List TopC) (round : Bool) (now : Int) : GoodC (csyncC C s m gn tops round now) (csyncC R s m gn tops round now) n := by
  unfold csyncC
  rw [h.look]
  cases e : aget R.gs s with
  | none => exact h
  | some g =>
    have := h.ok _ (aget_in e)
    exact h.turn e (this.1.sync m gn tops round now) (this.2.sync m gn tops round now) (Nat.le_refl _)
theorem GoodC.base (h : GoodC C R n) : cbase C s = cbase R s := by unfold cbase; rw [h.look, h.s, h.r]
theorem GoodC.joinE (h : GoodC C R n) (m : Int) (topics : List ByteArray) (now : Int) : cjoinE C s m topics now = cjoinE R s m topics now := by unfold cjoinE; rw [h.look, h.len, h.base]
theorem GoodC.joinR (h : GoodC C R n) (m : Int) (topics : List ByteArray) (now : Int) : joinR C s m topics now = joinR R s m topics now := by unfold Go.Proofs.YtklhlffdpojkoaaGreat.joinR cjoinG; rw [h.joinE, h.base]
theorem GoodC.join (h : GoodC C R (n + 1)) (m : Int) (topics : List ByteArray) (now : Int) (hm : -9223372036854775808 ≤ m ∧ m ≤ 9223372036854775807) (ht : topics.length ≤ 1000) : GoodC (cjoinC C s m topics now) (rcjoinC R s m topics now) n := by
  unfold cjoinC rcjoinC
  rw [h.joinE]
  by_cases h0 : cjoinE R s m topics now = 0
  · rw [if_pos h0, if_pos h0]
    unfold cjoinG
    rw [h.base]
    unfold cjoinE at h0
    split at h0
    · cases h0
    · rename_i hs
      split at h0
      · cases h0
      · rename_i hf
        cases e : aget R.gs s with
        | none =>
          have hb : cbase R s = newG R.s R.r := by unfold cbase; rw [e]; rfl
          rw [hb] at h0 ⊢
          have ok0 : Ok (n + 1) (newG R.s R.r) := (Ok.newBig (by rw [← h.s]; exact h.sb) (by rw [← h.r]; exact h.rb)).le h.big
          rw [e] at hf
          exact h.more e (by simp at hf; omega) (by omega) (ok0.join hm ht h0) (PhG.join _ _ _ _) (by omega)
        | some g =>
          have hb : cbase R s = g := by unfold cbase; rw [e]; rfl
          rw [hb] at h0 ⊢
          have hr : rcput R.gs s (joinG g m topics now) = aput R.gs s (joinG g m topics now) := by unfold rcput; rw [e]; rfl
          rw [hr]
          have := h.ok _ (aget_in e)
          exact h.turn e (this.1.join hm ht h0) (PhG.join _ _ _ _) (by omega)
  · rw [if_neg h0, if_neg h0]
    exact h.mono (by omega)
theorem aget_mapV {l : GsL} (f : GroupC → GroupC) (u : ByteArray) : aget (l.map fun p => (p.1, f p.2)) u = (aget l u).map f := by
  induction l with
  | nil => rfl
  | cons p l ih =>
    obtain ⟨k, x⟩ := p
    simp only [List.map_cons, aget]
    by_cases h : k = u
    · simp [h]
    · simp only [if_neg h]; exact ih
theorem GoodC.tick (h : GoodC C R (n + 2)) (now : Int) : GoodC ⟨C.s, C.r, C.gs.map (fun p => (p.1, tickG p.2 now)), C.off⟩ ⟨R.s, R.r, R.gs.map (fun p => (p.1, tickG p.2 now)), R.off⟩ n := by
  have hk : ∀ l : GsL, (l.map (fun p => (p.1, tickG p.2 now))).map (·.1) = l.map (·.1) := fun l => by rw [List.map_map]; rfl
  refine ⟨h.s, h.r, h.sb, h.rb, ?_, ?_, fun u => ?_, ?_, ?_, ?_, fun p hp => ?_, fun p hp => ?_, by have := h.big; omega, h.off⟩
  · unfold KD; show ((C.gs.map (fun p => (p.1, tickG p.2 now))).map (·.1)).Nodup; rw [hk]; exact h.kc
  · unfold KD; show ((R.gs.map (fun p => (p.1, tickG p.2 now))).map (·.1)).Nodup; rw [hk]; exact h.kr
  · show aget (C.gs.map (fun p => (p.1, tickG p.2 now))) u = aget (R.gs.map (fun p => (p.1, tickG p.2 now))) u
    rw [aget_mapV (fun g => tickG g now), aget_mapV (fun g => tickG g now), h.look]
  · show (C.gs.map _).length = (R.gs.map _).length
    rw [List.length_map, List.length_map, h.len]
  · show (R.gs.map _).length ≤ 20
    rw [List.length_map]; exact h.le
  · unfold SrtG; show ((R.gs.map (fun p => (p.1, tickG p.2 now))).map (·.1)).Pairwise _; rw [hk]; exact h.ord
  · obtain ⟨q, hq, rfl⟩ := List.mem_map.1 hp
    exact h.nm q hq
  · obtain ⟨q, hq, rfl⟩ := List.mem_map.1 hp
    exact ⟨Ok.tick now (h.ok q hq).1, (h.ok q hq).2.tick now⟩
theorem GoodC.offs (h : GoodC C R n) {c' r' : OffC} (ho : SimO c' r') : GoodC ⟨C.s, C.r, C.gs, c'⟩ ⟨R.s, R.r, R.gs, r'⟩ n :=
  ⟨h.s, h.r, h.sb, h.rb, h.kc, h.kr, h.look, h.len, h.le, h.ord, h.nm, h.ok, h.big, ho⟩
end
theorem GoodC.new {s r : Int} (h1 : 1 ≤ s ∧ s ≤ 100000) (h2 : 1 ≤ r ∧ r ≤ 100000) : GoodC (newC s r) (newC s r) 1000000 :=
  ⟨rfl, rfl, h1, h2, List.nodup_nil, List.nodup_nil, fun _ => rfl, rfl, Nat.zero_le _, List.Pairwise.nil, (fun p hp => by cases hp), (fun p hp => by cases hp), Nat.le_refl _, ⟨rfl, rfl, List.nodup_nil, List.nodup_nil, fun _ => rfl, rfl, (fun p hp => by cases hp), Nat.zero_le _⟩⟩
/-- The names of both. -/
theorem GoodC.names {C R : CoordC} {n : Nat} (h : GoodC C R n) {ss : List ByteArray} {L : List (ByteArray × (Nat × GroupC))} (hL : gcore L = C.gs) (ho : OrdN ss (avals gptr L)) : ss = R.gs.map (·.1) := by
  have hkeys : (avals gptr L).map (·.1) = C.gs.map (·.1) := by rw [← hL]; unfold avals gcore; rw [List.map_map, List.map_map]; rfl
  have hp : ss.Perm (R.gs.map (·.1)) := by
    have := ho.perm
    rw [hkeys] at this
    exact this.trans (h.perm.map (·.1))
  have h1 : (ss.map fun s => s.data.toList).Perm ((R.gs.map (·.1)).map fun s => s.data.toList) := hp.map _
  have h2 : ((R.gs.map (·.1)).map fun s => s.data.toList).Pairwise fun x y => x ≤ y := by
    refine List.pairwise_map.2 (List.Pairwise.imp ?_ h.ord)
    intro a b hab
    exact List.le_of_lt ((slt_iff a b).1 hab)
  have h3 := h1.eq_of_pairwise (fun a b _ _ => List.le_antisymm) ho.ord h2
  have h4 : ∀ (l1 l2 : List ByteArray), l1.map (fun s => s.data.toList) = l2.map (fun s => s.data.toList) → l1 = l2 := fun l1 => by
    induction l1 with
    | nil => intro l2 e; cases l2 with
      | nil => rfl
      | cons b l2 => cases e
    | cons a l1 ih => intro l2 e; cases l2 with
      | nil => cases e
      | cons b l2 =>
        simp only [List.map_cons, List.cons.injEq] at e
        rw [sdata_inj e.1, ih l2 e.2]
  exact h4 _ _ h3
end Go.Proofs.YtklhlffdpojkoaaGreat

/-
  The law's holds: has a coordinator just the document's groups?
-/
namespace Go.Proofs.YtklhlffdpojkoaaGreat
open Go.RowKit Go.Shelf Fx

set_option maxRecDepth 100000 in
set_option maxHeartbeats 8000000 in
theorem holds_any {w0 w : World} {cb kb n : Nat} {C R : CoordC} {Y : CLay} {F : Nat → Prop} {YR : RLay} {v : Value} (h : CAt w0 w cb C Y) (hr : RCAt w F kb R YR v) (hg : GoodC C R n) :
    Calls Tryz.prog 11 #[.pointer (some ⟨cb, 0, none⟩), .pointer (some ⟨kb, 0, none⟩)] w fun e w' => e = .returned (.bool true) ∧ K0 w w' := by
  have hlenC : C.gs.length = Y.L.length := by rw [← h.core]; simp [gcore]
  have hlenR : R.gs.length = YR.L.length := by rw [← hr.core]; simp [gcore]
  have hle := hg.le
  have hks' : ∀ p ∈ avals gptr Y.L, p.1.size ≤ 100000 := fun p hp => by
    unfold avals at hp
    obtain ⟨q, hq, rfl⟩ := List.mem_map.1 hp
    have := hg.nmC (q.1, q.2.2) (by rw [← h.core]; exact List.mem_map.2 ⟨q, hq, rfl⟩)
    show q.1.size ≤ 100000
    have h9 : q.1.size ≤ 100 := this
    omega
  have HN1 := Lib.hid (pnames_at h (by have := hg.len; omega) hks')
  have HN2 := Lib.hid (fun wx (hk : K0 w wx) => rcnames_any (⟨YR, v, hr.keep hk (fun _ _ e => e)⟩ : RCst wx F kb R) (by omega))
  have HH := Lib.hid h
  have HR := Lib.hid hr
  have HG := Lib.hid hg
  have HLR := Lib.hid hlenR
  have hnl : (R.gs.map (·.1)).length = R.gs.length := by simp
  obtain ⟨nm, hnm⟩ : ∃ nm, nm = R.gs.map (·.1) := ⟨_, rfl⟩
  have HNM := Lib.hid hnm
  have HNL : Hid (nm.length = R.gs.length) := by show _ = _; rw [hnm]; exact hnl
  have hnl20 : nm.length ≤ 20 := by rw [HNL.out]; exact hle
  clear h hr hg hlenC hlenR hle hks' hnm hnl
  go_enter Tryz.func11, Tryz.ntmps11
  go_wp2_with fail
  refine HN1.out.mono ?_
  rintro e w1 ⟨ss, ho, v1, rfl, hrow, hk1⟩
  have hss := (HG.out.names HH.out.core ho).trans HNM.out.symm
  subst hss
  obtain ⟨a1, c1, rfl, hS1⟩ := YStrs.of_own hrow
  have HS1 := Lib.hid hS1
  have HK1 := Lib.hid hk1
  clear ho hrow hS1 hk1
  go_wp2_with fail
  refine (HN2.out _ HK1.out).mono ?_
  rw [← HNM.out]
  rintro e w2 ⟨v2, rfl, hrow2, hk2⟩
  obtain ⟨a2, c2, rfl, hS2⟩ := YStrs.of_own hrow2
  have HSM := Lib.hid (y_same_any (c := c1) (d := c2) (HS1.out.keep hk2) hS2)
  have HK2 := Lib.hid (K0.tr HK1.out hk2)
  have HS12 := Lib.hid (HS1.out.keep hk2)
  clear hrow2 hS2 hk2
  have hdd : decide (ss = ss) = true := decide_eq_true rfl
  rw [hdd] at HSM
  clear hdd
  go_wp2_with fail
  refine HSM.out.mono ?_
  rintro e w3 ⟨rfl, hk3⟩
  have HK3 := Lib.hid (K0.tr HK2.out hk3)
  have HS13 := Lib.hid (HS12.out.keep hk3)
  clear hk3
  go_wp2
  go_loopw [6] (fun i wr => ∃ k : Nat, i = .int .i64 k ∧ k ≤ ss.length ∧ K0 w wr ∧ YStrs wr a1 ss) (fun i _ => ss.length - (intOf i).toNat)
  case atStart => exact ⟨0, rfl, by omega, HK3.out, HS13.out⟩
  case round =>
    obtain ⟨k, rfl, hk, hkr, hsr⟩ := hrel
    have HKW := Lib.hid hkr
    have HSR := Lib.hid hsr
    have i0 : (0 : Int) ≤ k := by omega
    clear hkr hsr
    by_cases hlt : k < ss.length
    · have i1 : (k : Int) < ss.length := by omega
      have hne : ss ≠ [] := fun e => by rw [e] at hlt; exact absurd hlt (Nat.not_lt_zero _)
      obtain ⟨r1, rfl, hr1, hc1⟩ := HSR.out.row hne
      have hltR : k < R.gs.length := by rw [← HNL.out]; exact hlt
      have hltY : k < YR.L.length := by rw [← HLR.out]; exact hltR
      have hrr := HR.out.keep HKW.out (fun _ _ e => e)
      rcases HR.out.form with ⟨hnil, _⟩ | ⟨r2, cap, rfl, hrb, hrl, hcap, hFr, hcm⟩
      · rw [hnil] at hltY; exact absurd hltY (Nat.not_lt_zero _)
      have z2 : wr.cell? ⟨kb, 2, none⟩ = some (.slice (some ⟨r2, 0, none⟩) YR.L.length cap) := block_cell hrr.blk 2
      have zc := (hrr.cell rfl k hltY).2
      have hnk := hc1 k hlt
      have hs1 : ss[k] = R.gs[k].1 := by
        have h9 := HNM.out
        simp only [h9]
        simp
      have hcore : (YR.L[k].1, YR.L[k].2.2) = R.gs[k] := by
        have h9 : gcore YR.L = R.gs := HR.out.core
        simp only [← h9]
        simp [gcore]
      have hagR : aget R.gs R.gs[k].1 = some R.gs[k].2 := aget_of_mem HG.out.kr (List.getElem_mem hltR)
      have hagC : aget C.gs ss[k] = some R.gs[k].2 := by rw [hs1, HG.out.look]; exact hagR
      have hgg : YR.L[k].2.2 = R.gs[k].2 := congrArg (·.2) hcore
      have hok := (HG.out.ok _ (List.getElem_mem hltR)).1
      have HGC : Hid (∀ wx, K0 w wx → Calls Tryz.prog 22 #[.pointer (some ⟨cb, 0, none⟩), .string ss[k]] wx fun e w' => ∃ a c, e = .returned (.agg #[.int .i64 R.gs[k].2.phase, .int .i64 R.gs[k].2.gen, .int .i64 R.gs[k].2.next, .int .i64 R.gs[k].2.til, .slice a R.gs[k].2.ones.length c]) ∧ ViewAt w' wx.heap.size (.slice a R.gs[k].2.ones.length c) R.gs[k].2.ones ∧ K0 wx w') := fun wx hk => cgroup_some (HH.out.keep hk) ss[k] HG.out.cok hagC
      have HLS : Hid (∀ wx a c base, K0 w wx → ViewAt wx base (.slice a R.gs[k].2.ones.length c) R.gs[k].2.ones → Calls Tryz.prog 38 #[.agg #[.int .i64 R.gs[k].2.phase, .int .i64 R.gs[k].2.gen, .int .i64 R.gs[k].2.next, .int .i64 R.gs[k].2.til, .slice a R.gs[k].2.ones.length c], .pointer (some ⟨YR.L[k].2.1, 0, none⟩)] wx fun e w' => e = .returned (.bool true) ∧ K0 wx w') := fun wx a c base hk hv => by
        have h9 := (HR.out.keep hk (fun _ _ e => e)).grp k hltY
        rw [hgg] at h9
        exact lsame_any wx hv h9 (by have := hok.wf.len; omega)
      generalize R.gs[k].2 = gk at *
      generalize YR.L[k].2.1 = bk at *
      generalize ss[k] = sk at *
      have n2 : (k : Int) < YR.L.length := by omega
      have HLT := Lib.hid hlt
      have hkd : K0 w wr.drew := HKW.out.drew
      have hkd2 : K0 wr wr.drew := (Keeps.refl _ _).drew
      have y1 : wr.drew.cell? ⟨r1, k, none⟩ = some (.string sk) := hnk
      have y2 : wr.drew.cell? ⟨kb, 2, none⟩ = some (.slice (some ⟨r2, 0, none⟩) YR.L.length cap) := z2
      have y3 : wr.drew.cell? ⟨r2, k * 2 + 1, none⟩ = some (.pointer (some ⟨bk, 0, none⟩)) := zc
      clear hrr hcore hagR hagC hgg hok hs1 hc1 hne hnk
      clear z2 zc
      go_wp2
      go_region_held3 (fun w' => w'.cell? ⟨r1, k, none⟩ = some (.string sk) ∧ w'.cell? ⟨kb, 2, none⟩ = some (.slice (some ⟨r2, 0, none⟩) YR.L.length cap) ∧ w'.cell? ⟨r2, k * 2 + 1, none⟩ = some (.pointer (some ⟨bk, 0, none⟩)) ∧ K0 w w' ∧ K0 wr w')
        (first | go_keep | (go_split_ands; refine ⟨?_, ?_, ?_, ?_, ?_⟩ <;> first | assumption | exact Keeps.cell' (by assumption) (by assumption) (fun e => e) | exact K0.tr (by assumption) (by assumption)))
        (first | (go_at_call 22; go_split_ands; refine (HGC.out _ (by assumption)).mono ?_; rintro e w' ⟨av, cv, rfl, hv, hk9⟩) | (go_at_call 38; go_split_ands; refine (HLS.out _ _ _ _ (by assumption) (by assumption)).mono ?_; rintro e w' ⟨rfl, hk9⟩))
      all_goals
        go_split_ands
        have kk : K0 w w' := by assumption
        have HKK := Lib.hid kk
        have kr : K0 wr w' := by assumption
        have HKR := Lib.hid kr
        clear kk kr
        go_wp2
        go_roundw
        case rel => exact ⟨k + 1, by go_num, HLT.out, HKK.out, HSR.out.keep HKR.out⟩
        case measure => have := HLT.out; simp [intOf]; omega
    · have i1 : ¬ (k : Int) < ss.length := by omega
      go_wp2
      go_ret
      exact ⟨rfl, HKW.out⟩
end Go.Proofs.YtklhlffdpojkoaaGreat

/-
  Both coordinators side by side in one world: neither knows of what is done to the other one.
-/
namespace Go.Proofs.YtklhlffdpojkoaaGreat
open Go.RowKit Go.Shelf Fx

/-- Both of them, and blocks that neither has (E): these are as they were in wb. -/
def JC (E : Nat → Prop) (w0 wb w : World) (cb : Nat) (C : CoordC) (kb : Nat) (R : CoordC) (tb : Nat) : Prop :=
  ∃ Y F YR v, CAt w0 w cb C Y ∧ RCAt w F kb R YR v ∧ YR.tb = tb ∧ (∀ k, F k → ¬ cfoot cb Y k ∧ w0.heap.size ≤ k) ∧ ∀ k, E k → k < w.heap.size ∧ ¬ F k ∧ ¬ cfoot cb Y k ∧ w.heap[k]? = wb.heap[k]?
section
variable {E : Nat → Prop} {w0 wb w w' : World} {cb kb tb n : Nat} {C R C' R' : CoordC} {Y : CLay} {F : Nat → Prop} {YR : RLay} {v : Value}
theorem JC.k0 (h : JC E w0 wb w cb C kb R tb) : K0 w0 w := by
  obtain ⟨_, _, _, _, h, _⟩ := h
  exact h.k0
theorem JC.keep (h : JC E w0 wb w cb C kb R tb) (hk : K0 w w') : JC E w0 wb w' cb C kb R tb := by
  obtain ⟨Y, F, YR, v, h1, h2, ht, h3, h4⟩ := h
  exact ⟨Y, F, YR, v, h1.keep hk, h2.keep hk (fun _ _ e => e), ht, h3, fun k e => ⟨Nat.lt_of_lt_of_le (h4 k e).1 hk.size, (h4 k e).2.1, (h4 k e).2.2.1, (hk.block k (h4 k e).1 (fun e => e)).trans (h4 k e).2.2.2⟩⟩
theorem JC.blk (h : JC E w0 wb w cb C kb R tb) {k : Nat} (e : E k) : w.heap[k]? = wb.heap[k]? := by
  obtain ⟨Y, F, YR, v, h1, h2, ht, h3, h4⟩ := h
  exact (h4 k e).2.2.2
theorem JC.ktb (h : JC E w0 wb w cb C kb R tb) : w.cell? ⟨kb, 3, none⟩ = some (.pointer (some ⟨tb, 0, none⟩)) ∧ kb < w.heap.size := by
  obtain ⟨Y, F, YR, v, h1, h2, rfl, h3, h4⟩ := h
  exact ⟨block_cell h2.blk 3, block_lt h2.blk⟩
theorem jc_prog (_h1 : CAt w0 w cb C Y) (h2 : RCAt w F kb R YR v) (ht : YR.tb = tb) (h3 : ∀ k, F k → ¬ cfoot cb Y k ∧ w0.heap.size ≤ k) (h4 : ∀ k, E k → k < w.heap.size ∧ ¬ F k ∧ ¬ cfoot cb Y k ∧ w.heap[k]? = wb.heap[k]?) (hn : CPost w0 w cb Y C' w') : JC E w0 wb w' cb C' kb R tb := by
  obtain ⟨Y', q1, q2, q3⟩ := hn
  have hin : ∀ k, k < w.heap.size → cfoot cb Y' k → cfoot cb Y k := fun k hk e => (q2 k e).elim id (fun e => by omega)
  refine ⟨Y', F, YR, v, q1, h2.keep q3 (fun k e => (h3 k e).1), ht, fun k e => ⟨fun e2 => (h3 k e).1 (hin k (h2.lt k e) e2), (h3 k e).2⟩, fun k e => ?_⟩
  obtain ⟨a1, a2, a3, a4⟩ := h4 k e
  exact ⟨Nat.lt_of_lt_of_le a1 q3.size, a2, fun e2 => a3 (hin k a1 e2), (q3.block k a1 a3).trans a4⟩
theorem jc_ref (h1 : CAt w0 w cb C Y) (_h2 : RCAt w F kb R YR v) (h3 : ∀ k, F k → ¬ cfoot cb Y k ∧ w0.heap.size ≤ k) (h4 : ∀ k, E k → k < w.heap.size ∧ ¬ F k ∧ ¬ cfoot cb Y k ∧ w.heap[k]? = wb.heap[k]?) (hn : RCpost w F kb R' w') : ∃ tb', JC E w0 wb w' cb C kb R' tb' := by
  obtain ⟨F', ⟨YR', v', q1⟩, q2, q3⟩ := hn
  have hs := h1.k0.size
  refine ⟨YR'.tb, Y, F', YR', v', h1.keepS q3 (fun k e => ?_), q1, rfl, fun k e => ?_, fun k e => ?_⟩
  · obtain ⟨a, b⟩ := h3 k e
    exact ⟨b, fun e => a (.inl e), fun e => a (.inr (.inl e)), fun e => a (.inr (.inr (.inl e))), fun e => a (.inr (.inr (.inr (.inl e)))), fun i hi e => a (.inr (.inr (.inr (.inr ⟨i, hi, e⟩))))⟩
  · rcases q2 k e with e | e
    · exact h3 k e
    · exact ⟨fun e2 => by have := h1.ltC k e2; omega, by omega⟩
  · obtain ⟨a1, a2, a3, a4⟩ := h4 k e
    exact ⟨Nat.lt_of_lt_of_le a1 q3.size, fun e2 => (q2 k e2).elim a2 (fun e3 => by omega), a3, (q3.block k a1 a2).trans a4⟩
/-- From a world on, with one block more that neither has. -/
theorem JC.base (h : JC E w0 wb w cb C kb R tb) (w1 : World) (hk : K0 w w1) {bo : Nat} (hbo : w.heap.size ≤ bo) (hlt : bo < w1.heap.size) : JC (fun k => k = bo) w0 w1 w1 cb C kb R tb := by
  obtain ⟨Y, F, YR, v, h1, h2, ht, h3, h4⟩ := h
  refine ⟨Y, F, YR, v, h1.keep hk, h2.keep hk (fun _ _ e => e), ht, h3, fun k e => ?_⟩
  subst e
  exact ⟨hlt, fun e => by have := h2.lt _ e; omega, fun e => by have := h1.ltC _ e; omega, rfl⟩
/-- From a world on, with one block more that neither has, the old ones kept. -/
theorem JC.baseE (h : JC E w0 wb w cb C kb R tb) (w1 : World) (hk : K0 w w1) {bo : Nat} (hbo : w.heap.size ≤ bo) (hlt : bo < w1.heap.size) : JC (fun k => E k ∨ k = bo) w0 w1 w1 cb C kb R tb := by
  obtain ⟨Y, F, YR, v, h1, h2, ht, h3, h4⟩ := h
  refine ⟨Y, F, YR, v, h1.keep hk, h2.keep hk (fun _ _ e => e), ht, h3, fun k e => ?_⟩
  rcases e with e | rfl
  · exact ⟨Nat.lt_of_lt_of_le (h4 k e).1 hk.size, (h4 k e).2.1, (h4 k e).2.2.1, rfl⟩
  · exact ⟨hlt, fun e => by have := h2.lt _ e; omega, fun e => by have := h1.ltC _ e; omega, rfl⟩
/-- .. and back. -/
theorem JC.backE {w1 w2 : World} {bo tb2 : Nat} (h : JC E w0 wb w cb C kb R tb) (hk : K0 w w1) (h2 : JC (fun k => E k ∨ k = bo) w0 w1 w2 cb C' kb R' tb2) : JC E w0 wb w2 cb C' kb R' tb2 := by
  obtain ⟨Y, F, YR, v, h1, _, _, _, h4⟩ := h
  obtain ⟨Y', F', YR', v', q1, q2, qt, q3, q4⟩ := h2
  exact ⟨Y', F', YR', v', q1, q2, qt, q3, fun k e => ⟨(q4 k (.inl e)).1, (q4 k (.inl e)).2.1, (q4 k (.inl e)).2.2.1, (q4 k (.inl e)).2.2.2.trans ((hk.block k (h4 k e).1 (fun e => e)).trans (h4 k e).2.2.2)⟩⟩
theorem JC.drop (h : JC E w0 wb w cb C kb R tb) (w1 : World) : JC (fun _ => False) w0 w1 w cb C kb R tb := by
  obtain ⟨Y, F, YR, v, h1, h2, ht, h3, h4⟩ := h
  exact ⟨Y, F, YR, v, h1, h2, ht, h3, fun k e => e.elim⟩
theorem out_foot {α : Type} {m : Nat} {Rd : Rdr α} (hR : Still Rd) {tv : Value} {l : List α} (ht : Out m Rd w0 (fun _ => True) tv l) (h1 : CAt w0 w cb C Y) : Out m Rd w (fun k => ¬ cfoot cb Y k) tv l :=
  ht.keep hR h1.k0 (fun _ _ _ e => e) (fun k hk _ e => by have := h1.newC k e; omega)
theorem out_footR {α : Type} {m : Nat} {Rd : Rdr α} (hR : Still Rd) {tv : Value} {l : List α} (ht : Out m Rd w0 (fun _ => True) tv l) (hk : K0 w0 w) (h3 : ∀ k, F k → ¬ cfoot cb Y k ∧ w0.heap.size ≤ k) : Out m Rd w (fun k => ¬ F k) tv l :=
  ht.keep hR hk (fun _ _ _ e => e) (fun k hlt _ e => by have := (h3 k e).2; omega)
def I64 (m : Int) : Prop := -9223372036854775808 ≤ m ∧ m ≤ 9223372036854775807
theorem jc_find (h : JC E w0 wb w cb C kb R tb) (s : ByteArray) : Calls Tryz.prog 25 #[.pointer (some ⟨kb, 0, none⟩), .string s] w fun e w' => (∃ o, e = .returned (ptrOf o) ∧ ((o = none ∧ aget R.gs s = none) ∨ ∃ b g, o = some (b, g) ∧ aget R.gs s = some g ∧ w'.cell? ⟨b, 3, none⟩ = some (.int .i64 g.gen) ∧ b < w'.heap.size)) ∧ K0 w w' := by
  obtain ⟨Y, F, YR, v, h1, h2, ht, h3, h4⟩ := h
  refine (rcfind_any s h2).mono fun e w' hq => ?_
  obtain ⟨rfl, hk⟩ := hq
  refine ⟨⟨_, rfl, ?_⟩, hk⟩
  have hA := h2.agetL s
  cases hf : aget YR.L s with
  | none => rw [hf] at hA; exact .inl ⟨rfl, hA⟩
  | some p =>
    obtain ⟨b, g⟩ := p
    rw [hf] at hA
    obtain ⟨i, hi, _, _, v2, L2, hg⟩ := (h2.keep hk (fun _ _ e => e)).at hf
    exact .inr ⟨b, g, rfl, hA, block_cell hg.blk 3, block_lt hg.blk⟩
theorem jp_join (h : JC E w0 wb w cb C kb R' tb) (hg : GoodC C R (n + 1)) (s : ByteArray) (m now : Int) (tv : Value) (topics : List ByteArray) (hm : I64 m) (htl : topics.length ≤ 1000) (ht : Out 1 rStr w0 (fun _ => True) tv topics) :
    Calls Tryz.prog 12 #[.pointer (some ⟨cb, 0, none⟩), .string s, .int .i64 m, tv, .int .i64 now] w fun e w' => e = .returned (.tuple #[.agg #[.int .i64 (joinR R s m topics now).1, .int .i64 (joinR R s m topics now).2.1, .int .i64 (joinR R s m topics now).2.2], .int .i64 (cjoinE R s m topics now)]) ∧ JC E w0 wb w' cb (cjoinC C s m topics now) kb R' tb := by
  obtain ⟨Y, F, YR, v, h1, h2, hb, h3, h4⟩ := h
  refine (pjoin_at h1 s m now tv topics hg.cok ⟨hg.sb, hg.rb⟩ htl hm (out_foot still_str ht h1)).mono fun e w' hq => ?_
  obtain ⟨rfl, hp⟩ := hq
  rw [hg.joinE, hg.joinR]
  exact ⟨rfl, jc_prog h1 h2 hb h3 h4 hp⟩
theorem jr_join (h : JC E w0 wb w cb C kb R tb) (hg : GoodC C' R (n + 1)) (s : ByteArray) (m now : Int) (tv : Value) (topics : List ByteArray) (hm : I64 m) (htl : topics.length ≤ 1000) (ht : Out 1 rStr w0 (fun _ => True) tv topics) :
    Calls Tryz.prog 26 #[.pointer (some ⟨kb, 0, none⟩), .string s, .int .i64 m, tv, .int .i64 now] w fun e w' => e = .returned (.tuple #[.int .i64 (joinR R s m topics now).1, .int .i64 (joinR R s m topics now).2.1, .int .i64 (joinR R s m topics now).2.2, .int .i64 (cjoinE R s m topics now)]) ∧ ∃ tb', JC E w0 wb w' cb C kb (rcjoinC R s m topics now) tb' := by
  obtain ⟨Y, F, YR, v, h1, h2, hb, h3, h4⟩ := h
  refine (rcjoin_any h2 s m now tv topics (fun g e => hg.rok g e) hg.le ⟨by rw [← hg.s]; exact hg.sb, by rw [← hg.r]; exact hg.rb⟩ htl hm (out_footR still_str ht h1.k0 h3)).mono fun e w' hq => ?_
  obtain ⟨rfl, hp⟩ := hq
  exact ⟨rfl, jc_ref h1 h2 h3 h4 hp⟩
/-- Both of them, and blocks (D) that the document's has not. -/
def JS (E D : Nat → Prop) (w0 wb w : World) (cb : Nat) (C : CoordC) (kb : Nat) (R : CoordC) (tb : Nat) : Prop :=
  ∃ Y F YR v, CAt w0 w cb C Y ∧ RCAt w F kb R YR v ∧ YR.tb = tb ∧ (∀ k, F k → ¬ cfoot cb Y k ∧ w0.heap.size ≤ k) ∧ (∀ k, E k → k < w.heap.size ∧ ¬ F k ∧ ¬ cfoot cb Y k ∧ w.heap[k]? = wb.heap[k]?) ∧ ∀ k, D k → k < w.heap.size ∧ ¬ F k
theorem JS.jc {D : Nat → Prop} (h : JS E D w0 wb w cb C kb R tb) : JC E w0 wb w cb C kb R tb := by
  obtain ⟨Y, F, YR, v, h1, h2, ht, h3, h4, _⟩ := h
  exact ⟨Y, F, YR, v, h1, h2, ht, h3, h4⟩
theorem jp_sync (h : JC E w0 wb w cb C kb R tb) (hg : GoodC C R n) (s : ByteArray) (m gn now : Int) (tv : Value) (tops : List TopC) (round : Bool) (hm : I64 m) (ht : Out 2 rTop w0 (fun _ => True) tv tops) :
    Calls Tryz.prog 13 #[.pointer (some ⟨cb, 0, none⟩), .string s, .int .i64 m, .int .i64 gn, tv, .bool round, .int .i64 now] w fun e w' => ∃ pv, e = .returned (.tuple #[pv, .int .i64 (csyncE R s m gn tops now)]) ∧ PartsR w' pv (csyncP R s m gn tops round now) ∧ JS E (vblk pv) w0 wb w' cb (csyncC C s m gn tops round now) kb R tb := by
  obtain ⟨Y, F, YR, v, h1, h2, hb, h3, h4⟩ := h
  refine (psync_at h1 s m gn now tv tops round hg.cok hm (out_foot still_top ht h1)).mono fun e w' hq => ?_
  obtain ⟨pv, rfl, hp, hps, hf⟩ := hq
  rw [hg.syncE]
  rw [hg.syncP] at hps
  refine ⟨pv, rfl, hps, ?_⟩
  obtain ⟨Y', q1, q2, q3⟩ := hp
  have hin : ∀ k, k < w.heap.size → cfoot cb Y' k → cfoot cb Y k := fun k hk e => (q2 k e).elim id (fun e => by omega)
  refine ⟨Y', F, YR, v, q1, h2.keep q3 (fun k e => (h3 k e).1), hb, fun k e => ⟨fun e2 => (h3 k e).1 (hin k (h2.lt k e) e2), (h3 k e).2⟩, fun k e => ?_, fun k e => ⟨(hps.1.vblk e).1, fun e2 => by have := h2.lt k e2; have := hf k e; omega⟩⟩
  obtain ⟨a1, a2, a3, a4⟩ := h4 k e
  exact ⟨Nat.lt_of_lt_of_le a1 q3.size, a2, fun e2 => a3 (hin k a1 e2), (q3.block k a1 a3).trans a4⟩
theorem jr_sync {D : Nat → Prop} (h : JS E D w0 wb w cb C kb R tb) (hg : GoodC C' R n) (s : ByteArray) (m gn now : Int) (tv : Value) (tops : List TopC) (round : Bool) (ht : Out 2 rTop w0 (fun _ => True) tv tops) :
    Calls Tryz.prog 27 #[.pointer (some ⟨kb, 0, none⟩), .string s, .int .i64 m, .int .i64 gn, tv, .bool round, .int .i64 now] w fun e w' => ∃ pv, e = .returned (.tuple #[pv, .int .i64 (csyncE R s m gn tops now)]) ∧ PartsR w' pv (csyncP R s m gn tops round now) ∧ (∃ tb', JC E w0 wb w' cb C kb (csyncC R s m gn tops round now) tb') ∧ (∀ k, D k → w'.heap[k]? = w.heap[k]?) ∧ w.heap.size ≤ w'.heap.size := by
  obtain ⟨Y, F, YR, v, h1, h2, hb, h3, h4, h5⟩ := h
  refine (rcsync_any s m gn now tv tops round h2 (fun g e => hg.rok g e) (out_footR still_top ht h1.k0 h3)).mono fun e w' hq => ?_
  obtain ⟨pv, rfl, hp, hps⟩ := hq
  have hk := hp
  obtain ⟨_, _, _, hk⟩ := hk
  exact ⟨pv, rfl, hps, jc_ref h1 h2 h3 h4 hp, fun k e => hk.block k (h5 k e).1 (h5 k e).2, hk.size⟩
theorem jp_beat (h : JC E w0 wb w cb C kb R' tb) (hg : GoodC C R n) (s : ByteArray) (m gn now : Int) (hm : I64 m) :
    Calls Tryz.prog 16 #[.pointer (some ⟨cb, 0, none⟩), .string s, .int .i64 m, .int .i64 gn, .int .i64 now] w fun e w' => e = .returned (.int .i64 (rcbeatE R s m gn now)) ∧ JC E w0 wb w' cb (cbeatC C s m gn now) kb R' tb := by
  obtain ⟨Y, F, YR, v, h1, h2, hb, h3, h4⟩ := h
  refine (pbeat_at h1 s m gn now hg.cok hm).mono fun e w' hq => ?_
  obtain ⟨rfl, hp⟩ := hq
  rw [hg.beatE]
  exact ⟨rfl, jc_prog h1 h2 hb h3 h4 hp⟩
theorem jr_beat (h : JC E w0 wb w cb C kb R tb) (hg : GoodC C' R n) (s : ByteArray) (m gn now : Int) :
    Calls Tryz.prog 29 #[.pointer (some ⟨kb, 0, none⟩), .string s, .int .i64 m, .int .i64 gn, .int .i64 now] w fun e w' => e = .returned (.int .i64 (rcbeatE R s m gn now)) ∧ ∃ tb', JC E w0 wb w' cb C kb (rcbeatC R s m gn now) tb' := by
  obtain ⟨Y, F, YR, v, h1, h2, hb, h3, h4⟩ := h
  refine (rcbeat_any s m gn now h2 (fun g e => (hg.rok g e).wf)).mono fun e w' hq => ?_
  obtain ⟨rfl, hp⟩ := hq
  exact ⟨rfl, jc_ref h1 h2 h3 h4 hp⟩
theorem jp_leave (h : JC E w0 wb w cb C kb R' tb) (hg : GoodC C R n) (s : ByteArray) (m now : Int) (hm : I64 m) :
    Calls Tryz.prog 17 #[.pointer (some ⟨cb, 0, none⟩), .string s, .int .i64 m, .int .i64 now] w fun e w' => e = .returned (.int .i64 (cleaveE R s m now)) ∧ JC E w0 wb w' cb (cleaveC C s m now) kb R' tb := by
  obtain ⟨Y, F, YR, v, h1, h2, hb, h3, h4⟩ := h
  refine (pleave_at h1 s m now hg.cok hm).mono fun e w' hq => ?_
  obtain ⟨rfl, hp⟩ := hq
  rw [hg.leaveE]
  exact ⟨rfl, jc_prog h1 h2 hb h3 h4 hp⟩
theorem jr_leave (h : JC E w0 wb w cb C kb R tb) (hg : GoodC C' R n) (s : ByteArray) (m now : Int) :
    Calls Tryz.prog 30 #[.pointer (some ⟨kb, 0, none⟩), .string s, .int .i64 m, .int .i64 now] w fun e w' => e = .returned (.int .i64 (cleaveE R s m now)) ∧ ∃ tb', JC E w0 wb w' cb C kb (cleaveC R s m now) tb' := by
  obtain ⟨Y, F, YR, v, h1, h2, hb, h3, h4⟩ := h
  refine (rcleave_any s m now h2 (fun g e => (hg.rok g e).wf)).mono fun e w' hq => ?_
  obtain ⟨rfl, hp⟩ := hq
  exact ⟨rfl, jc_ref h1 h2 h3 h4 hp⟩
theorem jp_may (h : JC E w0 wb w cb C kb R tb) (hg : GoodC C R' n) (s : ByteArray) (m gn : Int) (hm : I64 m) :
    Calls Tryz.prog 18 #[.pointer (some ⟨cb, 0, none⟩), .string s, .int .i64 m, .int .i64 gn] w fun e w' => e = .returned (.int .i64 (cmayE R' s m gn)) ∧ JC E w0 wb w' cb C kb R tb ∧ K0 w w' := by
  have h0 := h
  obtain ⟨Y, F, YR, v, h1, h2, hb, h3, h4⟩ := h
  refine (may_at h1 s m gn hg.cok hm).mono fun e w' hq => ?_
  obtain ⟨rfl, hk⟩ := hq
  rw [hg.mayE]
  exact ⟨rfl, h0.keep hk, hk⟩
theorem jr_may (h : JC E w0 wb w cb C kb R tb) (hg : GoodC C' R n) (s : ByteArray) (m gn : Int) :
    Calls Tryz.prog 31 #[.pointer (some ⟨kb, 0, none⟩), .string s, .int .i64 m, .int .i64 gn] w fun e w' => e = .returned (.int .i64 (cmayE R s m gn)) ∧ JC E w0 wb w' cb C kb R tb ∧ K0 w w' := by
  have h0 := h
  obtain ⟨Y, F, YR, v, h1, h2, hb, h3, h4⟩ := h
  refine (rcmay_any s m gn h2 (fun g e => ⟨(hg.rok g e).wf, by have := (hg.rok g e).wf.len; omega⟩)).mono fun e w' hq => ?_
  obtain ⟨rfl, hk⟩ := hq
  exact ⟨rfl, h0.keep hk, hk⟩
theorem jp_commit (h : JC E w0 wb w cb C kb R tb) (hg : GoodC C R' n) (s t : ByteArray) (i at_ : Int) :
    Calls Tryz.prog 19 #[.pointer (some ⟨cb, 0, none⟩), .string s, .agg #[.string t, .int .i64 i], .int .i64 at_] w fun e w' => e = .returned (.int .i64 (commitE R'.off ⟨s, t, i⟩ at_)) ∧ JC E w0 wb w' cb ⟨C.s, C.r, C.gs, commitC C.off ⟨s, t, i⟩ at_⟩ kb R tb := by
  obtain ⟨Y, F, YR, v, h1, h2, hb, h3, h4⟩ := h
  refine (pcommit_at h1 s t i at_).mono fun e w' hq => ?_
  obtain ⟨rfl, hp⟩ := hq
  rw [hg.off.commitE]
  exact ⟨rfl, jc_prog h1 h2 hb h3 h4 hp⟩
/-- What the document's Commit leaves of the offsets. -/
structure ComR (R R' : OffC) (k : OffK) (at_ : Int) : Prop where
  room : R'.room = R.room
  kd : KD R'.all
  look : ∀ u, aget R'.all u = aget (commitC R k at_).all u
  len : R'.all.length = (commitC R k at_).all.length
theorem RCAt.offsT (h : RCAt w F kb R YR v) {R' : OffC} (hp : ROpost w YR.ft YR.tb R' w') : ∃ F' YR', RCAt w' F' kb ⟨R.s, R.r, R.gs, R'⟩ YR' v ∧ YR'.tb = YR.tb ∧ (∀ k, F' k → F k ∨ w.heap.size ≤ k) ∧ Keeps F w w' := by
  obtain ⟨F', p1, p2, p3⟩ := hp
  have hcb : kb < w.heap.size := block_lt h.blk
  have hF'lt : ∀ k, F' k → k < w'.heap.size := p1.lt
  refine ⟨fun k => F k ∨ (w.heap.size ≤ k ∧ k < w'.heap.size), ⟨YR.tb, YR.L, F', YR.fp⟩, ?_, rfl, fun k e => e.imp id (fun e => e.1), p3.mono (fun k _ e => (h.ftn k e).1)⟩
  refine ⟨(p3.block kb hcb (fun e => (h.ftn kb e).2.1 rfl)).trans h.blk, y_row_keep p3 h.row (fun k e1 e2 => (h.own k e1).2.2.1 e2), h.core, p1, fun i hi => (h.grp i hi).keep p3 (fun k e1 e2 => (h.ftn k e2).2.2 i hi e1), .inl h.fcb, ?_, ?_, ?_, fun i k hi e => ⟨.inl (h.fpn i k hi e).1, (h.fpn i k hi e).2⟩, h.apart⟩
  · intro k e1
    exact e1.elim (fun e1 => Nat.lt_of_lt_of_le (h.lt k e1) p3.size) (fun e1 => e1.2)
  · intro k e1
    obtain ⟨q1, q2, q3, q4⟩ := h.own k e1
    refine ⟨.inl q1, q2, fun e2 => ?_, q4⟩
    rcases p2 k e2 with e3 | e3
    · exact q3 e3
    · have := h.lt k q1; omega
  · intro k e1
    rcases p2 k e1 with e3 | e3
    · exact ⟨.inl (h.ftn k e3).1, (h.ftn k e3).2⟩
    · exact ⟨.inr ⟨e3, hF'lt k e1⟩, by omega, fun i hi e2 => by have := h.lt k (h.fpn i k hi e2).1; omega⟩
theorem jc_refT (h1 : CAt w0 w cb C Y) (h2 : RCAt w F kb R YR v) (hb : YR.tb = tb) (h3 : ∀ k, F k → ¬ cfoot cb Y k ∧ w0.heap.size ≤ k) (h4 : ∀ k, E k → k < w.heap.size ∧ ¬ F k ∧ ¬ cfoot cb Y k ∧ w.heap[k]? = wb.heap[k]?) {o' : OffC} (hn : ROpost w YR.ft YR.tb o' w') : JC E w0 wb w' cb C kb ⟨R.s, R.r, R.gs, o'⟩ tb := by
  obtain ⟨F', YR', q1, qb, q2, q3⟩ := h2.offsT hn
  have hs := h1.k0.size
  refine ⟨Y, F', YR', v, h1.keepS q3 (fun k e => ?_), q1, qb.trans hb, fun k e => ?_, fun k e => ?_⟩
  · obtain ⟨a, b⟩ := h3 k e
    exact ⟨b, fun e => a (.inl e), fun e => a (.inr (.inl e)), fun e => a (.inr (.inr (.inl e))), fun e => a (.inr (.inr (.inr (.inl e)))), fun i hi e => a (.inr (.inr (.inr (.inr ⟨i, hi, e⟩))))⟩
  · rcases q2 k e with e | e
    · exact h3 k e
    · exact ⟨fun e2 => by have := h1.ltC k e2; omega, by omega⟩
  · obtain ⟨a1, a2, a3, a4⟩ := h4 k e
    exact ⟨Nat.lt_of_lt_of_le a1 q3.size, fun e2 => (q2 k e2).elim a2 (fun e3 => by omega), a3, (q3.block k a1 a2).trans a4⟩
theorem jr_commit (h : JC E w0 wb w cb C kb R tb) (hg : GoodC C' R n) (s t : ByteArray) (i at_ : Int) (hs : s.size ≤ 9223372036854775807) (ht : t.size ≤ 9223372036854775807) :
    Calls Tryz.prog 32 #[.pointer (some ⟨tb, 0, none⟩), .string s, .agg #[.string t, .int .i64 i], .int .i64 at_] w fun e w' => e = .returned (.int .i64 (commitE R.off ⟨s, t, i⟩ at_)) ∧ ∃ o', ComR R.off o' ⟨s, t, i⟩ at_ ∧ JC E w0 wb w' cb C kb ⟨R.s, R.r, R.gs, o'⟩ tb := by
  obtain ⟨Y, F, YR, v, h1, h2, hb, h3, h4⟩ := h
  refine (hb ▸ rocommit_any s t i at_ h2.tab hg.off.kr (by have := hg.off.small; have := hg.off.len; omega) hs ht).mono fun e w' hq => ?_
  obtain ⟨rfl, o', q1, q2, q3, q4, q5⟩ := hq
  exact ⟨rfl, o', ⟨q2, q3, q4, q5⟩, jc_refT h1 h2 hb h3 h4 (hb ▸ q1)⟩
theorem jp_get (h : JC E w0 wb w cb C kb R' tb) (hg : GoodC C R n) (s t : ByteArray) (i : Int) :
    Calls Tryz.prog 14 #[.pointer (some ⟨cb, 0, none⟩), .string s, .agg #[.string t, .int .i64 i]] w fun e w' => e = .returned (.tuple #[.int .i64 (getV R.off ⟨s, t, i⟩).1, .bool (getV R.off ⟨s, t, i⟩).2]) ∧ K0 w w' := by
  obtain ⟨Y, F, YR, v, h1, h2, hb, h3, h4⟩ := h
  refine (cget_at h1 s t i).mono fun e w' hq => ?_
  obtain ⟨rfl, hk⟩ := hq
  rw [hg.off.getV]
  exact ⟨rfl, hk⟩
theorem jr_get (h : JC E w0 wb w cb C kb R tb) (hg : GoodC C' R n) (s t : ByteArray) (i : Int) (_hs : s.size ≤ 9223372036854775807) (_ht : t.size ≤ 9223372036854775807) :
    Calls Tryz.prog 33 #[.pointer (some ⟨tb, 0, none⟩), .string s, .agg #[.string t, .int .i64 i]] w fun e w' => e = .returned (.tuple #[.int .i64 (getV R.off ⟨s, t, i⟩).1, .bool (getV R.off ⟨s, t, i⟩).2]) ∧ K0 w w' := by
  obtain ⟨Y, F, YR, v, h1, h2, hb, h3, h4⟩ := h
  exact hb ▸ roget_any s t i h2.tab hg.off.kr
theorem jp_drop (h : JC E w0 wb w cb C kb R tb) (hg : GoodC C R' n) (t : ByteArray) :
    Calls Tryz.prog 20 #[.pointer (some ⟨cb, 0, none⟩), .string t] w fun e w' => e = .returned (.int .i64 (dropN R'.off t)) ∧ ∃ L2, L2.Perm (dropO C.off t).all ∧ JC E w0 wb w' cb ⟨C.s, C.r, C.gs, ⟨C.off.room, L2⟩⟩ kb R tb := by
  obtain ⟨Y, F, YR, v, h1, h2, hb, h3, h4⟩ := h
  refine (pdrop_at h1 t hg.off.ok (by have := hg.off.small; omega)).mono fun e w' hq => ?_
  obtain ⟨rfl, L2, hp, hpp⟩ := hq
  rw [hg.off.dropN]
  exact ⟨rfl, L2, hpp, jc_prog h1 h2 hb h3 h4 hp⟩
theorem jr_drop (h : JC E w0 wb w cb C kb R tb) (hg : GoodC C' R n) (t : ByteArray) :
    Calls Tryz.prog 34 #[.pointer (some ⟨tb, 0, none⟩), .string t] w fun e w' => e = .returned (.int .i64 (dropN R.off t)) ∧ JC E w0 wb w' cb C kb ⟨R.s, R.r, R.gs, dropO R.off t⟩ tb := by
  obtain ⟨Y, F, YR, v, h1, h2, hb, h3, h4⟩ := h
  refine (hb ▸ rodrop_any t h2.tab (by have := hg.off.small; have := hg.off.len; omega)).mono fun e w' hq => ?_
  obtain ⟨rfl, q1⟩ := hq
  exact ⟨rfl, jc_refT h1 h2 hb h3 h4 (hb ▸ q1)⟩
theorem jp_tick (h : JC E w0 wb w cb C kb R tb) (hg : GoodC C R' (n + 40)) (now : Int) :
    Calls Tryz.prog 15 #[.pointer (some ⟨cb, 0, none⟩), .int .i64 now] w fun e w' => e = .returned (.tuple #[]) ∧ JC E w0 wb w' cb ⟨C.s, C.r, C.gs.map (fun p => (p.1, tickG p.2 now)), C.off⟩ kb R tb := by
  obtain ⟨Y, F, YR, v, h1, h2, hb, h3, h4⟩ := h
  refine (ptick_at h1 now hg.kc (by have := hg.len; have := hg.le; omega) (fun p hp => by have := hg.nmC p hp; omega) (fun p hp => (hg.okC p hp).1)).mono fun e w' hq => ?_
  obtain ⟨rfl, hp⟩ := hq
  exact ⟨rfl, jc_prog h1 h2 hb h3 h4 hp⟩
theorem jr_tick (h : JC E w0 wb w cb C kb R tb) (hg : GoodC C' R (n + 2)) (now : Int) :
    Calls Tryz.prog 35 #[.pointer (some ⟨kb, 0, none⟩), .int .i64 now] w fun e w' => e = .returned (.tuple #[]) ∧ ∃ tb', JC E w0 wb w' cb C kb ⟨R.s, R.r, R.gs.map (fun p => (p.1, tickG p.2 now)), R.off⟩ tb' := by
  obtain ⟨Y, F, YR, v, h1, h2, hb, h3, h4⟩ := h
  refine (rctick_any now ⟨YR, v, h2⟩ hg.kr (fun p hp => (hg.ok p hp).1)).mono fun e w' hq => ?_
  obtain ⟨rfl, hp⟩ := hq
  exact ⟨rfl, jc_ref h1 h2 h3 h4 hp⟩
theorem jc_holds (h : JC E w0 wb w cb C kb R tb) (hg : GoodC C R n) :
    Calls Tryz.prog 11 #[.pointer (some ⟨cb, 0, none⟩), .pointer (some ⟨kb, 0, none⟩)] w fun e w' => e = .returned (.bool true) ∧ JC E w0 wb w' cb C kb R tb := by
  have h0 := h
  obtain ⟨Y, F, YR, v, h1, h2, hb, h3, h4⟩ := h
  exact (holds_any h1 h2 hg).mono fun e w' hq => ⟨hq.1, h0.keep hq.2⟩
end
end Go.Proofs.YtklhlffdpojkoaaGreat

/-
  The law's step: one call on both coordinators.
-/
namespace Go.Proofs.YtklhlffdpojkoaaGreat
open Go.RowKit Go.Shelf Fx

/-- The generation that a call names. -/
def gnS (R : CoordC) (s : ByteArray) (gn m : Int) : Int := match aget R.gs s with
  | some g => if -100 ≤ gn ∧ gn ≤ 100 ∧ 0 ≤ m then gn + g.gen else gn
  | none => gn
/-- Is the generation counted from the group's? -/
def gnT (o : Option (Nat × GroupC)) (gn m : Int) : Bool := decide (o.isSome = true ∧ -100 ≤ gn ∧ gn ≤ 100 ∧ 0 ≤ m)
/-- Of all other groups nothing has turned. -/
def ApartP (C C' : CoordC) (s : ByteArray) : Prop := ∀ u, u ≠ s → aget C'.gs u = aget C.gs u ∧ ∀ t i, getV C'.off ⟨u, t, i⟩ = getV C.off ⟨u, t, i⟩
theorem ApartP.refl (C : CoordC) (s : ByteArray) : ApartP C C s := fun _ _ => ⟨rfl, fun _ _ => rfl⟩
theorem ApartP.put (C : CoordC) (s : ByteArray) (g : GroupC) : ApartP C ⟨C.s, C.r, aput C.gs s g, C.off⟩ s := fun u hu => ⟨by
  show aget (aput C.gs s g) u = aget C.gs u
  rw [aget_aput, if_neg (fun e => hu e.symm)], fun _ _ => rfl⟩
theorem apart_join (C : CoordC) (s : ByteArray) (m : Int) (topics : List ByteArray) (now : Int) : ApartP C (cjoinC C s m topics now) s := by
  unfold cjoinC
  split
  · exact ApartP.put _ _ _
  · exact ApartP.refl _ _
theorem apart_sync (C : CoordC) (s : ByteArray) (m gn : Int) (tops : List TopC) (rd : Bool) (now : Int) : ApartP C (csyncC C s m gn tops rd now) s := by
  unfold csyncC
  split
  · exact ApartP.put _ _ _
  · exact ApartP.refl _ _
theorem apart_beat (C : CoordC) (s : ByteArray) (m gn now : Int) : ApartP C (cbeatC C s m gn now) s := by
  unfold cbeatC
  split
  · exact ApartP.refl _ _
  · exact ApartP.put _ _ _
theorem apart_leave (C : CoordC) (s : ByteArray) (m now : Int) : ApartP C (cleaveC C s m now) s := by
  unfold cleaveC
  split
  · exact ApartP.refl _ _
  · exact ApartP.put _ _ _
theorem apart_commit (C : CoordC) (s t : ByteArray) (i at_ : Int) : ApartP C ⟨C.s, C.r, C.gs, commitC C.off ⟨s, t, i⟩ at_⟩ s := fun u hu => ⟨rfl, fun t2 i2 => by
  show getV (commitC C.off ⟨s, t, i⟩ at_) ⟨u, t2, i2⟩ = getV C.off ⟨u, t2, i2⟩
  unfold getV commitC
  split
  · show (match aget (aput C.off.all ⟨s, t, i⟩ at_) ⟨u, t2, i2⟩ with | _ => _) = _
    rw [aget_aput, if_neg (fun e => hu (congrArg OffK.group e).symm)]
  · rfl⟩
structure Cel4 (wx : World) (bo : Nat) (s pt : ByteArray) (m pi at_ : Int) (kb tb : Nat) : Prop where
  c1 : wx.cell? ⟨bo, 1, none⟩ = some (.string s)
  c2 : wx.cell? ⟨bo, 2, none⟩ = some (.int .i64 m)
  c7 : wx.cell? ⟨bo, 7, none⟩ = some (.string pt)
  c8 : wx.cell? ⟨bo, 8, none⟩ = some (.int .i64 pi)
  c9 : wx.cell? ⟨bo, 9, none⟩ = some (.int .i64 at_)
  ck : wx.cell? ⟨kb, 3, none⟩ = some (.pointer (some ⟨tb, 0, none⟩))
def StepQ (E : Nat → Prop) (w0 wb : World) (cb : Nat) (C : CoordC) (kb : Nat) (s : ByteArray) (ap : Prop) (n : Nat) (e : Ending) (w' : World) : Prop :=
  e = .returned (.bool true) ∧ ∃ C' R' tb', JC E w0 wb w' cb C' kb R' tb' ∧ GoodC C' R' n ∧ (ap → ApartP C C' s)
theorem int_ne {a b : Int} (h : ¬ a = b) : (a == b) = false := by simpa using h
theorem GoodC.commitO {C R : CoordC} {n : Nat} (h : GoodC C R n) {k : OffK} {at_ : Int} {o' : OffC} (ho : ComR R.off o' k at_) : GoodC ⟨C.s, C.r, C.gs, commitC C.off k at_⟩ ⟨R.s, R.r, R.gs, o'⟩ n :=
  h.offs (h.off.commit k at_ ho.room ho.kd ho.look ho.len)
theorem GoodC.dropO {C R : CoordC} {n : Nat} (h : GoodC C R n) (t : ByteArray) {L2 : List RowP} (hp : L2.Perm (dropO C.off t).all) : GoodC ⟨C.s, C.r, C.gs, ⟨C.off.room, L2⟩⟩ ⟨R.s, R.r, R.gs, Go.Proofs.YtklhlffdpojkoaaGreat.dropO R.off t⟩ n :=
  h.offs (h.off.drop t hp)
section
variable {E : Nat → Prop} {w0 wb w : World} {cb kb tb n : Nat} {C R : CoordC} {s pt : ByteArray} {m gn pi at_ now : Int} {topics : List ByteArray} {parts : List TopC} {ta pa : Option Addr} {tc pc : Nat} {rd : Bool}
end
end Go.Proofs.YtklhlffdpojkoaaGreat
