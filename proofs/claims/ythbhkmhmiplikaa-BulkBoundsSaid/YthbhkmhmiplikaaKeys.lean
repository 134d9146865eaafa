/-
  The kinds of keys of this seat's maps: an int; a struct of two ints; of three.
-/
import Derived.Test.YthbhkmhmiplikaaMap
namespace Go.Proofs.Ythbhkmhmiplikaa
open Go.RowKit

def encI (a : Int) : Value := .int .i64 a
def enc2 (a : Int × Int) : Value := .agg #[.int .i64 a.1, .int .i64 a.2]
def enc3 (a : Int × Int × Int) : Value := .agg #[.int .i64 a.1, .int .i64 a.2.1, .int .i64 a.2.2]

theorem findNow_int (a : Int) : ∀ (es : List MapEntry) (ks : List Int) (n : Nat), es.map (·.key) = ks.map encI →
    Instr.findNow (.int .i64) (encI a) es n = some ((ks.findIdx? fun b => decide (b = a)).bind fun i => (es[i]?).map fun e => (n + i, e.val))
  | [], [], n, _ => by simp [Instr.findNow]
  | [], k :: ks, n, h => by simp at h
  | e :: es, [], n, h => by simp at h
  | e :: es, k :: ks, n, h => by
    simp only [List.map_cons, List.cons.injEq] at h
    have ih := findNow_int a es ks (n + 1) h.2
    simp only [Instr.findNow, h.1, encI, Instr.sameNow, if_true, List.findIdx?_cons]
    by_cases hk : k = a
    · subst hk; simp
    · have h1 : (a == k) = false := by simpa using fun e => hk e.symm
      simp only [encI] at ih
      rw [h1, ih]
      simp only [hk, decide_false, Bool.false_eq_true, if_false]
      have hn : ∀ i, n + 1 + i = n + (i + 1) := fun i => by omega
      cases List.findIdx? (fun b => decide (b = a)) ks <;> simp [hn]

theorem keyOk_int {P : Program} {k : TypeId} (hk : P.underlying k = some (.int .i64)) : KeyOk P k encI where
  inj a b h := by simpa [encI] using h
  check w em a := by
    show (Instr.checkKey em (9999 + 1) k (.int .i64 a)).run P w = _
    rw [Instr.checkKey]
    simp [run_underlying hk]
  find w a es ks h := by
    have := findNow_int a es ks 0 h
    simp only [Nat.zero_add] at this
    simp [Instr.findKey, run_underlying hk, this]
  stays w a := by simp [encI, Instr.keyThatStays, Instr.sameBits]

/-- For a struct's key: each entry is asked in turn. -/
theorem findAsking_run {α : Type} [DecidableEq α] {P : Program} {k : TypeId} {enc : α → Value} (heq : ∀ (w : World) (a b : α), (Op.equal k (enc a) (enc b)).run P w = .ok (decide (b = a)) w) (w : World) (a : α) :
    ∀ (es : List MapEntry) (ks : List α) (n : Nat), es.map (·.key) = ks.map enc →
    (Instr.findAsking k (enc a) es n).run P w = .ok ((ks.findIdx? fun b => decide (b = a)).bind fun i => (es[i]?).map fun e => (n + i, e.val)) w
  | [], [], n, _ => by simp [Instr.findAsking]
  | [], _ :: ks, n, h => by simp at h
  | e :: es, [], n, h => by simp at h
  | e :: es, k' :: ks, n, h => by
    simp only [List.map_cons, List.cons.injEq] at h
    have ih := findAsking_run heq w a es ks (n + 1) h.2
    simp only [Instr.findAsking, h.1, Sem.run_bind, heq, Result.andThen_ok, List.findIdx?_cons]
    by_cases hk : k' = a
    · subst hk; simp
    · simp only [hk, decide_false, Bool.false_eq_true, if_false]
      rw [ih]
      have hn : ∀ i, n + 1 + i = n + (i + 1) := fun i => by omega
      cases List.findIdx? (fun b => decide (b = a)) ks <;> simp [hn]

theorem findNow_struct {α : Type} {fs : Array Field} {enc : α → Value} (a : α) (e : MapEntry) (es : List MapEntry) : Instr.findNow (.struct fs) (enc a) (e :: es) 0 = none := by
  simp [Instr.findNow, Instr.sameNow]

theorem keyOk_struct {α : Type} [DecidableEq α] {P : Program} {k : TypeId} {fs : Array Field} {enc : α → Value} (hk : P.underlying k = some (.struct fs)) (hinj : ∀ a b, enc a = enc b → a = b)
    (hcheck : ∀ (w : World) (em : Bool) (a : α), (Instr.checkKey em 10000 k (enc a)).run P w = .ok () w)
    (heq : ∀ (w : World) (a b : α), (Op.equal k (enc a) (enc b)).run P w = .ok (decide (b = a)) w) (hst : ∀ a, Instr.sameBits 10000 (enc a) (enc a) = true) : KeyOk P k enc where
  inj := hinj
  check := hcheck
  find w a es ks h := by
    cases es with
    | nil =>
      cases ks with
      | nil => simp [Instr.findKey, run_underlying hk, Instr.findNow]
      | cons x ks => simp at h
    | cons e es =>
      have := findAsking_run heq w a (e :: es) ks 0 h
      simp only [Nat.zero_add] at this
      simp only [Instr.findKey, Sem.run_bind, run_underlying hk, Result.andThen_ok, findNow_struct]
      exact this
  stays w a := by simp [Instr.keyThatStays, hst]

section
variable {P : Program} {k i : TypeId} {f0 f1 : Field}
theorem keyOk_2 (hk : P.underlying k = some (.struct #[f0, f1])) (hi : P.underlying i = some (.int .i64)) (h0 : f0.type = i) (h1 : f1.type = i) (o0 : f0.offset = 0) (o1 : f1.offset = 1) (n0 : (f0.name = "_") = False) (n1 : (f1.name = "_") = False)
    (hp : P.stoodInHeld k = false) : KeyOk P k enc2 := by
  have hag : ∀ w : World, (isAgg i).run P w = .ok false w := fun w => by simp [isAgg, run_underlying hi]
  have hpart : ∀ (w : World) (cs : Array Value) (o : Nat) (v : Value), cs[o]? = some v → (part i cs o).run P w = .ok v w := fun w cs o v h => by simp [part, hag, h]
  refine keyOk_struct hk ?_ ?_ ?_ ?_
  · rintro ⟨a, b⟩ ⟨c, d⟩ h
    simp [enc2] at h
    simp [h.1, h.2]
  · intro w em a
    have hc : ∀ (w : World) (n : Nat) (x : Int), (Instr.checkKey em (n + 1) i (.int .i64 x)).run P w = .ok () w := fun w n x => by rw [Instr.checkKey]; simp [run_underlying hi]
    show (Instr.checkKey em (9999 + 1) k (enc2 a)).run P w = _
    rw [Instr.checkKey]
    have p0 := fun w => hpart w #[.int .i64 a.1, .int .i64 a.2] 0 (.int .i64 a.1) rfl
    have p1 := fun w => hpart w #[.int .i64 a.1, .int .i64 a.2] 1 (.int .i64 a.2) rfl
    have hc' : ∀ (w : World) (x : Int), (Instr.checkKey em 9999 i (.int .i64 x)).run P w = .ok () w := fun w x => hc w 9998 x
    simp only [enc2, Sem.run_bind, run_underlying hk, Result.andThen_ok]
    rw [← Array.forIn_toList]
    simp only [List.forIn_cons, List.forIn_nil, Sem.run_bind, n0, n1, ne_eq, not_false_eq_true, if_true, h0, h1, o0, o1, p0, p1, hc', Result.andThen_ok, Sem.run_pure]
  · intro w a b
    have hf : P.fieldsOf k = #[f0, f1] := by simp [Program.fieldsOf, hk]
    have he := run_equalIn_struct (P := P) w 9999 k #[.int .i64 a.1, .int .i64 a.2] #[.int .i64 b.1, .int .i64 b.2] (by rw [hf]; exact hk) hp
    show (Op.equalIn 10000 k _ _).run P w = _
    rw [enc2, enc2, he, hf]
    have e1 : ∀ (w : World) (x y : Int), (Op.equalIn 9999 i (.int .i64 x) (.int .i64 y)).run P w = .ok (x == y) w := fun w x y => run_equalIn_int (P := P) w 9998 i .i64 .i64 x y hi
    have p0 := fun w => hpart w #[.int .i64 a.1, .int .i64 a.2] 0 (.int .i64 a.1) rfl
    have p1 := fun w => hpart w #[.int .i64 a.1, .int .i64 a.2] 1 (.int .i64 a.2) rfl
    have q0 := fun w => hpart w #[.int .i64 b.1, .int .i64 b.2] 0 (.int .i64 b.1) rfl
    have q1 := fun w => hpart w #[.int .i64 b.1, .int .i64 b.2] 1 (.int .i64 b.2) rfl
    simp only [Op.eqFields, n0, n1, ne_eq, not_false_eq_true, if_true, h0, h1, o0, o1, Sem.run_bind, p0, p1, q0, q1, e1, Result.andThen_ok, Sem.run_ite, Sem.run_pure]
    obtain ⟨a1, a2⟩ := a
    obtain ⟨b1, b2⟩ := b
    by_cases x1 : a1 = b1
    · by_cases x2 : a2 = b2
      · simp [x1, x2]
      · have y2 : (a2 == b2) = false := by simpa using x2
        have z2 : ¬ b2 = a2 := fun e => x2 e.symm
        simp [x1, y2, z2]
    · have y1 : (a1 == b1) = false := by simpa using x1
      have z1 : ¬ b1 = a1 := fun e => x1 e.symm
      simp [y1, z1]
  · intro a
    show Instr.sameBits (9999 + 1) (enc2 a) (enc2 a) = true
    simp only [enc2, Instr.sameBits]
    simp [Instr.sameBits]
end
end Go.Proofs.Ythbhkmhmiplikaa
