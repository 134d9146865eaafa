/-
  The owners of commands, by the program.
-/
import Derived.Test.YtfegdmhfmhaneaaEv
namespace Go.Proofs.Ytfegdmhfmhaneaa
open Go.RowKit

theorem zeroInt (w : World) : (zeroValue 3).run Try.prog w = .ok (.int .i64 0) w := by kernel_rfl
/-- Block r is the map of the owners of l. -/
def OwnMap (w : World) (r : Nat) (l : List Ev) (deps : Int) : Prop :=
  ∃ kv, MapKV encI w r kv ∧ ∀ id, look kv id = (l.find? (ownsB deps id)).map fun e => Value.int .i64 e.dep
theorem OwnMap.fr {w w' : World} {r : Nat} {l : List Ev} {deps : Int} (h : OwnMap w r l deps) {S : List Nat} (k : Fr S w w') (hr : r ∉ S) : OwnMap w' r l deps := by
  obtain ⟨kv, h1, h2⟩ := h
  exact ⟨kv, h1.fr k hr, h2⟩
theorem OwnMap.lt {w : World} {r : Nat} {l : List Ev} {deps : Int} (h : OwnMap w r l deps) : r < w.heap.size := by
  obtain ⟨kv, h1, h2⟩ := h
  exact h1.lt
theorem OwnMap.run {w : World} {r : Nat} {l : List Ev} {deps : Int} (h : OwnMap w r l deps) (id : Int) :
    (Instr.lookup 43 (.map (some r)) (.int .i64 id) true).run Try.prog w = .ok (.tuple #[.int .i64 (((l.find? (ownsB deps id)).map (·.dep)).getD 0), .bool (l.find? (ownsB deps id)).isSome]) w := by
  obtain ⟨kv, h1, h2⟩ := h
  have := run_look (keyOk_int (P := Try.prog) Try.underlying3) Try.underlying43 zeroInt h1 id true
  simp only [encI, h2 id, if_true] at this
  rw [this]
  cases l.find? (ownsB deps id) <;> rfl
theorem look_put {α : Type} [DecidableEq α] (kv : List (α × Value)) (a b : α) (v : Value) : look (put kv a v) b = if b = a then some v else look kv b := by
  unfold put
  by_cases h : a ∈ kv.map (·.1)
  · rw [if_pos h]
    induction kv with
    | nil => simp at h
    | cons p kv ih =>
      simp only [look, List.map_cons, List.find?_cons] at ih ⊢
      by_cases hp : p.1 = a
      · rw [if_pos hp]
        by_cases hb : b = a
        · subst hb; simp
        · have h1 : ¬ a = b := fun e => hb e.symm
          have h2 : ¬ p.1 = b := fun e => h1 (hp.symm.trans e)
          simp only [h1, h2, hb, decide_false, if_false]
          by_cases h3 : a ∈ kv.map (·.1)
          · rw [ih h3, if_neg hb]
          · have : (kv.map fun p => if p.1 = a then (a, v) else p) = kv := by
              conv => rhs; rw [← List.map_id kv]
              apply List.map_congr_left
              intro x hx
              rw [if_neg (fun e => h3 (List.mem_map.2 ⟨x, hx, e⟩))]; rfl
            rw [this]
      · have h3 : a ∈ kv.map (·.1) := by simpa [Ne.symm hp] using h
        rw [if_neg hp]
        by_cases hb : p.1 = b
        · have : ¬ b = a := fun e => hp (hb.trans e)
          simp [hb, this]
        · simp only [hb, decide_false]
          exact ih h3
  · rw [if_neg h]
    simp only [look, List.find?_append]
    by_cases hb : b = a
    · subst hb
      have : kv.find? (fun p => decide (p.1 = b)) = none := by
        rw [List.find?_eq_none]
        intro x hx
        simp only [decide_eq_true_eq]
        exact fun e => h (List.mem_map.2 ⟨x, hx, e⟩)
      rw [this]; simp
    · have : ¬ a = b := fun e => hb e.symm
      simp [this, hb]

set_option maxHeartbeats 2000000 in
theorem may_spec (w : World) (e : Ev) (deps : Int) :
    Calls Try.prog 27 #[e.val, .int .i64 deps] w fun r w' => r = .returned (.bool (mayB deps e)) ∧ Fr [] w w' := by
  obtain ⟨kind, eid, dep, scope, arg, step, n, ok, va, vn, vc⟩ := e
  simp only [Ev.val]
  go_enter Try.func27, Try.ntmps27
  go_wp2_with fail
  all_goals go_ret
  all_goals refine ⟨ret_bool ?_, (Fr.refl _ _).alloc _⟩
  all_goals simp only [mayB]
  all_goals first
    | (symm; apply decide_eq_true; omega)
    | (symm; apply decide_eq_false; omega)
    | (apply decide_eq_decide.2; omega)

theorem owner_spec {w : World} {r : Nat} {l : List Ev} {deps : Int} (h : OwnMap w r l deps) (id : Int) :
    Calls Try.prog 18 #[.map (some r), .int .i64 id] w fun e w' => e = .returned (.int .i64 (ownerOf l deps id)) ∧ w' = w := by
  have hl := h.run id
  cases hf : l.find? (ownsB deps id) with
  | none =>
    have HO : ownerOf l deps id = -1 := by unfold ownerOf; rw [hf]; rfl
    have HO := Lib.hid HO
    rw [hf] at hl
    simp only [Option.map_none, Option.getD_none, Option.isSome_none] at hl
    clear hf h
    go_enter Try.func18, Try.ntmps18
    go_wp2_with fail
    go_ret
    exact ⟨ret_int HO.out.symm, rfl⟩
  | some e =>
    have HO : ownerOf l deps id = e.dep := by unfold ownerOf; rw [hf]; rfl
    have HO := Lib.hid HO
    rw [hf] at hl
    simp only [Option.map_some, Option.getD_some, Option.isSome_some] at hl
    clear hf h
    go_enter Try.func18, Try.ntmps18
    go_wp2_with fail
    go_ret
    exact ⟨ret_int HO.out.symm, rfl⟩

theorem owns_step {l : List Ev} {deps : Int} {i : Nat} (h : i < l.length) (id : Int) :
    (l.take (i + 1)).find? (ownsB deps id) = ((l.take i).find? (ownsB deps id)).or (if ownsB deps id (l.getD i default) then some (l.getD i default) else none) := by
  rw [take_snoc_ev h, find_snoc]

theorem OwnMap.skip {w : World} {r : Nat} {l : List Ev} {deps : Int} {i : Nat} (h : OwnMap w r (l.take i) deps) (hi : i < l.length)
    (hno : ((l.take i).find? (ownsB deps (l.getD i default).id)).isSome = true ∨ (l.getD i default).kind ≠ 1 ∨ mayB deps (l.getD i default) = false) : OwnMap w r (l.take (i + 1)) deps := by
  obtain ⟨kv, h1, h2⟩ := h
  refine ⟨kv, h1, fun id => ?_⟩
  rw [h2, owns_step hi]
  generalize l.getD i default = e at *
  by_cases he : ownsB deps id e = true
  · rw [if_pos he]
    obtain ⟨e1, e2, e3⟩ := ownsB_iff.1 he
    rcases hno with h | h | h
    · rw [e2] at h
      obtain ⟨x, hx⟩ := Option.isSome_iff_exists.1 h
      rw [hx]; rfl
    · exact absurd e1 h
    · rw [e3] at h; cases h
  · rw [if_neg he]
    cases (l.take i).find? (ownsB deps id) <;> rfl
theorem OwnMap.add {w' : World} {r : Nat} {l : List Ev} {deps : Int} {i : Nat} {kv : List (Int × Value)} (hl : ∀ id, look kv id = ((l.take i).find? (ownsB deps id)).map fun e => Value.int .i64 e.dep) (hi : i < l.length)
    (hn : (l.take i).find? (ownsB deps (l.getD i default).id) = none) (hk : (l.getD i default).kind = 1) (hm : mayB deps (l.getD i default) = true) (hM : MapKV encI w' r (put kv (l.getD i default).id (.int .i64 (l.getD i default).dep))) : OwnMap w' r (l.take (i + 1)) deps := by
  refine ⟨_, hM, fun id => ?_⟩
  rw [look_put, owns_step hi]
  generalize l.getD i default = e at *
  by_cases he : id = e.id
  · subst he
    rw [if_pos rfl, hn, if_pos (ownsB_iff.2 ⟨hk, rfl, hm⟩)]
    rfl
  · rw [if_neg he, hl, if_neg (fun h => he (ownsB_iff.1 h).2.1.symm)]
    cases (l.take i).find? (ownsB deps id) <;> rfl

set_option maxHeartbeats 4000000 in
theorem owners_spec {w : World} {base : Nat} {v : Value} {l : List Ev} (hl : Evs w base v l) (hn : l.length ≤ 1000) (deps : Int) :
    Calls Try.prog 19 #[v, .int .i64 deps] w fun e w' => ∃ r, e = .returned (.map (some r)) ∧ w.heap.size ≤ r ∧ OwnMap w' r l deps ∧ Fr [] w w' := by
  obtain ⟨ao, cap, rfl, hc, ha, h4⟩ := hl
  have H4 := Lib.hid h4
  clear h4 ha
  have hmm := @run_makeMap Try.prog
  go_enter Try.func19, Try.ntmps19
  go_wp2_with fail
  clear hmm
  go_loopw [13] (fun x wr => ∃ i : Nat, i ≤ l.length ∧ x = .int .i64 i ∧ Hid (OwnMap wr w.heap.size (l.take i) deps) ∧ Hid (Fr [] w wr)) (fun x _ => l.length - (intOf x).toNat)
  case atStart => exact ⟨0, Nat.zero_le _, rfl, Lib.hid ⟨[], MapKV.new encI w, fun id => by simp [look]⟩, Lib.hid ((Fr.refl _ _).alloc _)⟩
  case round =>
    obtain ⟨i, hi, rfl, HM, HF⟩ := hrel
    by_cases hlt : i < l.length
    · obtain ⟨b, o, rfl, hb, h9⟩ := H4.out i hlt
      obtain ⟨k0, k1, k2, k3, k4, k5, k6, k7, k8⟩ := h9.fr HF.out (by simp)
      clear h9
      have HSK := Lib.hid (fun (w' : World) (h : OwnMap w' w.heap.size (l.take i) deps) => OwnMap.skip h hlt)
      have HAD := Lib.hid (fun (w' : World) (kv : List (Int × Value)) h => OwnMap.add (w' := w') (r := w.heap.size) (l := l) (deps := deps) (i := i) (kv := kv) h hlt)
      have hlk := (HM.out.fr (S := []) ((Fr.refl _ _).alloc (l.getD i default).obj) (by simp)).run (l.getD i default).id
      generalize hev : l.getD i default = ev at *
      clear hev
      have HMAY := Lib.hid (fun w' => may_spec w' ev deps)
      obtain ⟨kind, eid, dep, scope, arg, step, n, ok, va, vn, vc⟩ := ev
      simp only [Ev.val, Ev.obj] at k0 k1 k2 k3 k4 k5 k6 k7 k8 hlk HSK HAD HMAY
      generalize hfd : (l.take i).find? (ownsB deps eid) = fd at hlk
      have HFD := Lib.hid hfd
      clear hfd
      have HF2 := Lib.hid (HF.out.alloc (.cells #[.int .i64 kind, .int .i64 eid, .int .i64 dep, .int .i64 scope, .int .i64 arg, .int .i64 step, .int .u64 n, .bool ok, .slice va vn vc] 36))
      have HM2 := Lib.hid (HM.out.fr (S := []) ((Fr.refl _ _).alloc (.cells #[.int .i64 kind, .int .i64 eid, .int .i64 dep, .int .i64 scope, .int .i64 arg, .int .i64 step, .int .u64 n, .bool ok, .slice va vn vc] 36)) (by simp))
      cases fd with
      | some x =>
        simp only [Option.map_some, Option.getD_some, Option.isSome_some] at hlk
        go_wp2_with fail
        go_roundw
        case rel => exact ⟨i + 1, by omega, by go_num, Lib.hid (HSK.out _ HM2.out (.inl (by rw [HFD.out]; rfl))), HF2⟩
        case measure => simp [intOf]; omega
      | none =>
        simp only [Option.map_none, Option.getD_none, Option.isSome_none] at hlk
        by_cases hk : kind = 1
        · subst hk
          go_wp2_with fail
          refine (HMAY.out _).mono ?_
          rintro e w1 ⟨rfl, F⟩
          obtain ⟨-, x1, x2, -⟩ := At9.box (e := ⟨1, eid, dep, scope, arg, step, n, ok, va, vn, vc⟩) (F.keep (block_alloc_new _ _) (by simp))
          have HF3 := Lib.hid (HF2.out.trans F)
          have HM3 := Lib.hid (HM2.out.fr F (by simp))
          clear F hlk
          cases hm : mayB deps ⟨1, eid, dep, scope, arg, step, n, ok, va, vn, vc⟩ with
          | false =>
            have HSK := Lib.hid (HSK.out _ HM3.out (.inr (.inr hm)))
            clear hm HAD HMAY
            go_wp2_with fail
            go_roundw
            case rel => exact ⟨i + 1, by omega, by go_num, HSK, HF3⟩
            case measure => simp [intOf]; omega
          | true =>
            obtain ⟨kv, M, L⟩ := HM3.out
            obtain ⟨w2, hu, hM, hF2⟩ := put_run (keyOk_int (P := Try.prog) Try.underlying3) Try.underlying43 M eid (.int .i64 dep)
            simp only [encI] at hu
            have HAD := Lib.hid (HAD.out _ kv L HFD.out trivial hm hM)
            have HF4 := Lib.hid (HF3.out.trans' hF2 (fun x hx => .inr (by simp at hx; omega)))
            clear hm HSK HMAY hM hF2 L M
            go_wp2_with fail
            go_roundw
            case rel => exact ⟨i + 1, by omega, by go_num, HAD, HF4⟩
            case measure => simp [intOf]; omega
        · go_wp2_with fail
          go_roundw
          case rel => exact ⟨i + 1, by omega, by go_num, Lib.hid (HSK.out _ HM2.out (.inr (.inl hk))), HF2⟩
          case measure => simp [intOf]; omega
    · go_wp2_with fail
      go_ret
      have e : l.take i = l := List.take_of_length_le (by omega)
      exact ⟨_, rfl, Nat.le_refl _, by rw [← e]; exact HM.out, HF.out⟩
end Go.Proofs.Ytfegdmhfmhaneaa
