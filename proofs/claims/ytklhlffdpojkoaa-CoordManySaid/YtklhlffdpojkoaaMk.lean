/-
  The offsets' keys: a group, a topic, a partition's number.
-/
import Derived.Test.YtklhlffdpojkoaaRows
import Derived.Test.YtklhlffdpojkoaaMn
import Derived.Laws.StructEq
namespace Go.Proofs.Ytklhlffdpojkoaa
open Go.RowKit Fx

/-- A key. -/
structure OffK where
  group : ByteArray
  topic : ByteArray
  index : Int
deriving DecidableEq
def OffK.enc (k : OffK) : Value := .agg #[.string k.group, .string k.topic, .int .i64 k.index]
theorem ck (w : World) (em : Bool) (x : OffK) : (Instr.checkKey em 10000 68 x.enc).run Try.prog w = .ok () w := by kernel_rfl
theorem p0 (a b : ByteArray) (c : Int) (w : World) : (part 9 #[.string a, .string b, .int .i64 c] 0).run Try.prog w = .ok (.string a) w := by kernel_rfl
theorem p1 (a b : ByteArray) (c : Int) (w : World) : (part 42 #[.string a, .string b, .int .i64 c] 1).run Try.prog w = .ok (.agg #[.string b, .int .i64 c]) w := by kernel_rfl
theorem p2 (b : ByteArray) (c : Int) (w : World) : (part 9 #[.string b, .int .i64 c] 0).run Try.prog w = .ok (.string b) w := by kernel_rfl
theorem p3 (b : ByteArray) (c : Int) (w : World) : (part 3 #[.string b, .int .i64 c] 1).run Try.prog w = .ok (.int .i64 c) w := by kernel_rfl
theorem efK (d : Nat) (xs ys : Array Value) : Op.eqFields d xs ys (Try.prog.fieldsOf 68).toList = (do
    let a ← part 9 xs 0
    let b ← part 9 ys 0
    let r ← Op.equalIn d 9 a b
    if (!r) = true then pure false else do
      let a ← part 42 xs 1
      let b ← part 42 ys 1
      let r ← Op.equalIn d 42 a b
      if (!r) = true then pure false else pure true) := by kernel_rfl
theorem efP (d : Nat) (xs ys : Array Value) : Op.eqFields d xs ys (Try.prog.fieldsOf 42).toList = (do
    let a ← part 9 xs 0
    let b ← part 9 ys 0
    let r ← Op.equalIn d 9 a b
    if (!r) = true then pure false else do
      let a ← part 3 xs 1
      let b ← part 3 ys 1
      let r ← Op.equalIn d 3 a b
      if (!r) = true then pure false else pure true) := by kernel_rfl
theorem toList_eq {a b : ByteArray} : (a.toList == b.toList) = decide (a = b) := by
  by_cases h : a = b
  · subst h; simp
  · have : ¬ a.toList = b.toList := fun e => h (by
      rw [ByteArray.toList_eq, ByteArray.toList_eq] at e
      obtain ⟨⟨x⟩⟩ := a
      obtain ⟨⟨y⟩⟩ := b
      simp at e
      simp [e])
    simp [h, this]
theorem equal_key (w : World) (x y : OffK) : (Op.equal 68 x.enc y.enc).run Try.prog w = .ok (decide (x = y)) w := by
  obtain ⟨a, b, c⟩ := x
  obtain ⟨a', b', c'⟩ := y
  have e1 : (Op.equal 68 (OffK.enc ⟨a, b, c⟩) (OffK.enc ⟨a', b', c'⟩)).run Try.prog w = (Op.eqFields 9999 #[.string a, .string b, .int .i64 c] #[.string a', .string b', .int .i64 c'] (Try.prog.fieldsOf 68).toList).run Try.prog w :=
    run_equalIn_struct w 9999 _ _ _ (by kernel_rfl) (by kernel_rfl)
  have e2 : ∀ w, (Op.equalIn 9999 42 (.agg #[.string b, .int .i64 c]) (.agg #[.string b', .int .i64 c'])).run Try.prog w = (Op.eqFields 9998 #[.string b, .int .i64 c] #[.string b', .int .i64 c'] (Try.prog.fieldsOf 42).toList).run Try.prog w :=
    fun w => run_equalIn_struct w 9998 _ _ _ (by kernel_rfl) (by kernel_rfl)
  have e3 : ∀ (d : Nat) (a b : ByteArray) w, (Op.equalIn (d + 1) 9 (.string a) (.string b)).run Try.prog w = .ok (decide (a = b)) w := fun d a b w => by
    rw [run_equalIn_string w d _ a b Try.underlying9, toList_eq]
  have e4 : ∀ (a b : Int) w, (Op.equalIn 9998 3 (.int .i64 a) (.int .i64 b)).run Try.prog w = .ok (a == b) w := fun a b w => run_equalIn_int w 9997 3 .i64 .i64 a b Try.underlying3
  rw [e1, efK]
  simp only [Sem.run_bind, p0, p1, Result.andThen_ok, e3 9998, e2, efP, p2, p3, e3 9997, e4, Sem.run_ite, Sem.run_pure]
  by_cases h1 : a = a' <;> by_cases h2 : b = b' <;> by_cases h3 : c = c' <;> simp_all
theorem findNow_key (x : OffK) (es : List MapEntry) (i : Nat) : ∀ {L : List (OffK × Value)}, es.map (fun x => (x.key, x.val)) = L.map (fun p => (p.1.enc, p.2)) → Instr.findNow (.struct (Try.prog.fieldsOf 68)) x.enc es i = if es = [] then some none else none := by
  intro L h
  cases es with
  | nil => rfl
  | cons e es =>
    cases L with
    | nil => simp at h
    | cons p L =>
      simp only [List.map_cons, List.cons.injEq] at h
      have hk : e.key = p.1.enc := congrArg Prod.fst h.1
      simp [Instr.findNow, hk, OffK.enc, Instr.sameNow]
theorem findAsking_key (w : World) (x : OffK) : ∀ (es : List MapEntry) (L : List (OffK × Value)) (i : Nat), es.map (fun x => (x.key, x.val)) = L.map (fun p => (p.1.enc, p.2)) →
    (Instr.findAsking 68 x.enc es i).run Try.prog w = .ok ((aget L x).map fun v => (i + (L.findIdx fun p => p.1 = x), v)) w := by
  intro es
  induction es with
  | nil => intro L i h; cases L <;> simp_all [Instr.findAsking, aget]
  | cons e es ih =>
    intro L i h
    cases L with
    | nil => simp at h
    | cons p L =>
      simp only [List.map_cons, List.cons.injEq] at h
      obtain ⟨h1, h2⟩ := h
      have hk : e.key = p.1.enc := congrArg Prod.fst h1
      have hv : e.val = p.2 := congrArg Prod.snd h1
      obtain ⟨k, v⟩ := p
      simp only at hk hv
      simp only [Instr.findAsking, hk, Sem.run_bind, equal_key, Result.andThen_ok, Sem.run_ite]
      by_cases hx : x = k
      · subst hx; simp [aget, hv, List.findIdx_cons]
      · have hx' : ¬ k = x := fun e => hx e.symm
        simp [hx, ih L (i + 1) h2, aget, hx', List.findIdx_cons]
        cases aget L x <;> simp
        omega
theorem underKey : Try.prog.underlying 68 = some (.struct (Try.prog.fieldsOf 68)) := by kernel_rfl
/-- The offsets' keys are found. -/
def offKey : KeyEnc Try.prog 68 OffK where
  enc := OffK.enc
  inj := fun x y e => by
    obtain ⟨a, b, c⟩ := x
    obtain ⟨a', b', c'⟩ := y
    simp [OffK.enc] at e
    simp [e]
  check := fun w em x => ck w em x
  find := fun w x {es L} h => by
    have hf := findNow_key x es 0 h
    have ha := findAsking_key w x es L 0 h
    simp only [Nat.zero_add] at ha
    unfold Instr.findKey
    simp only [Sem.run_bind, run_underlying underKey, Result.andThen_ok, hf]
    cases es with
    | nil => cases L <;> simp_all [aget]
    | cons e es => simpa using ha
  stays := fun w x => by
    have : (Instr.keyThatStays (OffK.enc ⟨x.group, x.topic, x.index⟩) (OffK.enc ⟨x.group, x.topic, x.index⟩)).run Try.prog w = .ok (OffK.enc ⟨x.group, x.topic, x.index⟩) w := by
      have : Instr.sameBits 10000 (OffK.enc x) (OffK.enc x) = true := by
        show Instr.sameBits (9999 + 1) (.agg _) (.agg _) = true
        simp [Instr.sameBits, beq_toListBytes]
      simp [Instr.keyThatStays, this]
    exact this
end Go.Proofs.Ytklhlffdpojkoaa
