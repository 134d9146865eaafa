/-
  put of porpoiselaw03: timers put one behind the other.
-/
import Derived.Test.YtibnhfnidgfenaaWLaw1
import Derived.Test.YtibnhfnidgfenaaRowW
namespace Go.Proofs.Ytibnhfnidgfenaa
open Go.RowKit

/-- When it is due, and its number. -/
def view (e : Ent) : Nat × Int := (e.due, e.id)
def insV (x : Nat × Int) : List (Nat × Int) → List (Nat × Int)
  | [] => [x]
  | y :: l => if x.1 < y.1 then x :: y :: l else y :: insV x l
theorem insE_view (e : Ent) : ∀ l : List Ent, (insE e l).map view = insV (view e) (l.map view)
  | [] => rfl
  | x :: l => by
    have ih := insE_view e l
    unfold insE
    simp only [List.map_cons, insV]
    by_cases h : e.due < x.due
    · rw [if_pos h, if_pos (show (view e).1 < (view x).1 from h)]; rfl
    · rw [if_neg h, if_neg (show ¬ (view e).1 < (view x).1 from h), List.map_cons, ih]
theorem insV_mem {x y : Nat × Int} : ∀ {l : List (Nat × Int)}, y ∈ insV x l ↔ y = x ∨ y ∈ l
  | [] => by simp [insV]
  | z :: l => by
    unfold insV
    split
    · simp
    · simp only [List.mem_cons, insV_mem (l := l)]
      constructor
      · rintro (h | h | h) <;> simp [h]
      · rintro (h | h | h) <;> simp [h]
theorem insV_len (x : Nat × Int) : ∀ l : List (Nat × Int), (insV x l).length = l.length + 1
  | [] => rfl
  | z :: l => by
    unfold insV
    split
    · simp
    · simp [insV_len x l]
/-- The first n of numbers, put in turn: those that 'p' takes. -/
def putV (d : Nat → Nat) (p : Nat → Bool) : Nat → List (Nat × Int)
  | 0 => []
  | n + 1 => if p n then insV (d n, (n : Int)) (putV d p n) else putV d p n
theorem putV_mem {d : Nat → Nat} {p : Nat → Bool} {x : Nat × Int} : ∀ {n : Nat}, x ∈ putV d p n ↔ ∃ i, i < n ∧ p i = true ∧ x = (d i, (i : Int))
  | 0 => by simp [putV]
  | n + 1 => by
    unfold putV
    split
    · rename_i h
      rw [insV_mem, putV_mem (n := n)]
      constructor
      · rintro (h1 | ⟨i, h1, h2, h3⟩)
        · exact ⟨n, by omega, h, h1⟩
        · exact ⟨i, by omega, h2, h3⟩
      · rintro ⟨i, h1, h2, h3⟩
        by_cases hi : i = n
        · subst hi; exact .inl h3
        · exact .inr ⟨i, by omega, h2, h3⟩
    · rename_i h
      rw [putV_mem (n := n)]
      constructor
      · rintro ⟨i, h1, h2, h3⟩; exact ⟨i, by omega, h2, h3⟩
      · rintro ⟨i, h1, h2, h3⟩
        have : i ≠ n := fun e => h (e ▸ h2)
        exact ⟨i, by omega, h2, h3⟩
theorem putV_sorted {d : Nat → Nat} {p : Nat → Bool} : ∀ n, (putV d p n).Pairwise (fun a c => a.1 < c.1 ∨ (a.1 = c.1 ∧ a.2 < c.2)) := by
  have key : ∀ (x : Nat × Int) (l : List (Nat × Int)), l.Pairwise (fun a c => a.1 < c.1 ∨ (a.1 = c.1 ∧ a.2 < c.2)) → (∀ y ∈ l, y.2 < x.2) → (insV x l).Pairwise (fun a c => a.1 < c.1 ∨ (a.1 = c.1 ∧ a.2 < c.2)) := by
    intro x l
    induction l with
    | nil => intro _ _; simp [insV]
    | cons y l ih =>
      intro h hs
      obtain ⟨h1, h2⟩ := List.pairwise_cons.1 h
      unfold insV
      split
      · rename_i hd
        refine List.pairwise_cons.2 ⟨fun z hz => ?_, h⟩
        rcases List.mem_cons.1 hz with h3 | h3
        · subst h3; exact .inl hd
        · rcases h1 z h3 with h4 | h4 <;> exact .inl (by omega)
      · rename_i hd
        refine List.pairwise_cons.2 ⟨fun z hz => ?_, ih h2 (fun z hz => hs z (by simp [hz]))⟩
        rcases insV_mem.1 hz with h3 | h3
        · subst h3
          have := hs y (by simp)
          omega
        · exact h1 z h3
  intro n
  induction n with
  | zero => simp [putV]
  | succ n ih =>
    unfold putV
    split
    · refine key _ _ ih (fun y hy => ?_)
      obtain ⟨i, h1, _, rfl⟩ := putV_mem.1 hy
      simp; omega
    · exact ih
/-- When the i-th is due. -/
def dueAt (now : Nat) (l : List Nat) (i : Nat) : Nat := now + min (l.getD i 0) (18446744073709551615 - now)
theorem dueAt_lt (now : Nat) (l : List Nat) (i : Nat) (hn : now < 18446744073709551616) : dueAt now l i < 18446744073709551616 ∧ now ≤ dueAt now l i := by
  unfold dueAt
  omega
/-- A wheel of timers of calls. -/
def Calls1 (L : List Ent) (l : List (Nat × Int)) : Prop := L.map view = l ∧ ∀ e ∈ L, e.kind = 1
theorem Calls1.none {L : List Ent} {l : List (Nat × Int)} (h : Calls1 L l) {i : Int} (hi : ∀ x ∈ l, x.2 ≠ i) : entOf L (1, i) = none := by
  unfold entOf
  rw [List.find?_eq_none]
  intro e he
  simp only [decide_eq_true_eq]
  intro hk
  have : view e ∈ l := by rw [← h.1]; exact List.mem_map_of_mem he
  refine hi _ this ?_
  simp only [Ent.key, Prod.mk.injEq] at hk
  exact hk.2
theorem Calls1.ins {L : List Ent} {l : List (Nat × Int)} (h : Calls1 L l) {e : Ent} {i : Int} {d : Nat} (hk : e.key = (1, i)) (hd : e.due = d) : Calls1 (insE e L) (insV (d, i) l) := by
  simp only [Ent.key, Prod.mk.injEq] at hk
  refine ⟨by rw [insE_view, h.1]; unfold view; rw [hd, hk.2], fun x hx => ?_⟩
  rcases List.mem_cons.1 ((insE_perm e L).mem_iff.1 hx) with h1 | h1
  · rw [h1]; exact hk.1
  · exact h.2 x h1
theorem Calls1.len {L : List Ent} {l : List (Nat × Int)} (h : Calls1 L l) : L.length = l.length := by rw [← h.1, List.length_map]

/-- What put tells. -/
def PutAll (w : World) (now : Nat) (l : List (Nat × Int)) (s : Nat) (e : Ending) (w' : World) : Prop :=
  ∃ b fp L, e = .returned (.pointer (some ⟨b, 0, none⟩)) ∧ IsWheel w' b fp now s L ∧ Calls1 L l ∧ (∀ x ∈ fp, w.heap.size ≤ x) ∧ Fr [] w w'

set_option maxHeartbeats 4000000 in
set_option maxRecDepth 20000 in
theorem put_spec {w : World} {v : Value} {xs : List Nat} (hx : U64s w v xs) (now : Nat) (hn : now < 18446744073709551616) :
    Calls Try.prog 16 #[.int .u64 now, v] w (PutAll w now (putV (dueAt now xs) (fun _ => true) (min xs.length 60)) (min xs.length 60)) := by
  obtain ⟨ao, cap, rfl, hlen, h64, hcell⟩ := hx
  have HC := Lib.hid hcell
  have H64 := Lib.hid h64
  clear hcell h64
  go_enter Try.func16, Try.ntmps16
  go_wp2_with fail
  refine (wheel_new _ now hn).mono ?_
  rintro r w1 ⟨b, fp, rfl, h1, g1, F⟩
  have HI1 := Lib.hid h1
  have HG1 := Lib.hid g1
  have HF1 := Lib.hid F
  clear h1 g1 F
  go_wp2_with fail
  go_loopw [6] (fun v wr => ∃ i : Nat, i ≤ xs.length ∧ i ≤ 60 ∧ v = .int .i64 i ∧ Hid (∃ fp L, IsWheel wr b fp now i L ∧ Calls1 L (putV (dueAt now xs) (fun _ => true) i) ∧ (∀ x ∈ fp, w.heap.size ≤ x) ∧ Fr [] w wr)) (fun v _ => xs.length - (intOf v).toNat)
  case atStart => exact ⟨0, Nat.zero_le _, by omega, rfl, Lib.hid ⟨fp, [], HI1.out, ⟨rfl, by simp⟩, HG1.out, HF1.out⟩⟩
  case round =>
    obtain ⟨i, hi, hi2, rfl, HR⟩ := hrel
    by_cases hlt : i < xs.length
    · by_cases h60 : i < 60
      · obtain ⟨fpi, L, hI, hV, hG, hF⟩ := HR.out
        obtain ⟨b1, o1, rfl, hc⟩ := HC.out i hlt
        have hc' := hc
        have hd := dueAt_lt now xs i hn
        have hdd : dueAt now xs i = now + min (xs.getD i 0) (18446744073709551615 - now) := rfl
        have hxl : xs.getD i 0 < 18446744073709551616 := by
          have : xs.getD i 0 = xs[i] := by simp [List.getD, hlt]
          rw [this]
          exact H64.out _ (List.getElem_mem hlt)
        have HPN := Lib.hid (fun (w' : World) (F : Fr [] wr w') => (hI.fr0 F).put_new (k1 := 1) (k2 := (i : Int)) (due := dueAt now xs i) (hV.none (fun x hx => by
          obtain ⟨j, hj, _, rfl⟩ := putV_mem.1 hx
          simp; omega)) hd.1 (by omega))
        have HV := Lib.hid hV
        have HG := Lib.hid hG
        have HF := Lib.hid hF
        have hwr := hF.size
        clear hI hV hG hF HI1 HG1 HF1 HR
        generalize hdn : dueAt now xs i = D at *
        have HDN := Lib.hid hdn
        generalize xs.getD i 0 = X at *
        clear hdn
        have HE1 : Hid (IntKind.u64.wrap (18446744073709551615 - (now : Int)) < (X : Int) → IntKind.u64.wrap ((now : Int) + IntKind.u64.wrap (18446744073709551615 - (now : Int))) = (D : Int)) := Lib.hid (fun h => by
          rw [IntKind.wrap_u64] at h
          rw [IntKind.wrap_u64, IntKind.wrap_u64]
          omega)
        have HE2 : Hid (¬ IntKind.u64.wrap (18446744073709551615 - (now : Int)) < (X : Int) → IntKind.u64.wrap ((now : Int) + (X : Int)) = (D : Int)) := Lib.hid (fun h => by
          rw [IntKind.wrap_u64] at h
          rw [IntKind.wrap_u64]
          omega)
        have FX := Fr.refl [] wr
        have KS := Lib.hid (fun (w' : World) (F : Fr [] w w') => F.on hc (by simp))
        clear hc hc'
        by_cases hcw : IntKind.u64.wrap (18446744073709551615 - (now : Int)) < (X : Int)
        · go_wp2_with fail
          go_region_held3 (fun w' => w'.cell? ⟨b1, o1 + i, none⟩ = some (.int .u64 X)) (first | exact KS.out _ FP | exact KS.out _ (HF.out.trans (by repeat (first | exact FX | exact Fr.refl _ _ | apply Fr.drew | apply Fr.drewN | apply Fr.alloc))))
            (first
              | (go_at_call 19; refine (timer_spec _ _).mono ?_; rintro r w2 ⟨rfl, F⟩; have FX : Fr [] wr w2 := Fr.trans (by repeat (first | exact FX | exact Fr.refl _ _ | apply Fr.drew | apply Fr.drewN | apply Fr.alloc)) F; clear F)
              | (go_at_call 18; (first | rw [HE1.out hcw] | rw [if_pos hcw, HE1.out hcw]); refine (HPN.out _ FX).mono ?_; rintro r w3 ⟨rfl, e, fp', hk, hdu, hsq, hI3, U3, F3⟩; have FP : Fr [] w w3 := (HF.out.trans FX).ge F3 HG.out))
          all_goals (
            have HR2 : Hid (∃ fp L, IsWheel w3 b fp now (i + 1) L ∧ Calls1 L (putV (dueAt now xs) (fun _ => true) (i + 1)) ∧ (∀ x ∈ fp, w.heap.size ≤ x) ∧ Fr [] w w3) := Lib.hid (by
              refine ⟨fp', insE e L, hI3, ?_, U3.ge HG.out (Nat.le_trans hwr FX.size), FP⟩
              have := HV.out.ins hk (d := D) (by rw [hdu]; omega)
              rw [← HDN.out] at this
              exact this)
            clear hk hdu hsq hI3 U3 F3 FP FX
            go_wp2_with fail
            go_roundw
            case rel => exact ⟨i + 1, by omega, by omega, by go_num, HR2⟩
            case measure => simp [intOf]; omega)
        · have HE3 := Lib.hid (HE2.out hcw)
          clear HE2 HE1
          have hcf : (IntKind.u64.wrap (18446744073709551615 - (now : Int)) < (X : Int)) = False := eq_false hcw
          clear hcw
          go_wp2_with fail
          go_region_held3 (fun w' => w'.cell? ⟨b1, o1 + i, none⟩ = some (.int .u64 X)) (first | exact KS.out _ FP | exact KS.out _ (HF.out.trans (by repeat (first | exact FX | exact Fr.refl _ _ | apply Fr.drew | apply Fr.drewN | apply Fr.alloc))))
            (first
              | (go_at_call 19; refine (timer_spec _ _).mono ?_; rintro r w2 ⟨rfl, F⟩; have FX : Fr [] wr w2 := Fr.trans (by repeat (first | exact FX | exact Fr.refl _ _ | apply Fr.drew | apply Fr.drewN | apply Fr.alloc)) F; clear F)
              | (go_at_call 18; rw [HE3.out]; refine (HPN.out _ FX).mono ?_; rintro r w3 ⟨rfl, e, fp', hk, hdu, hsq, hI3, U3, F3⟩; have FP : Fr [] w w3 := (HF.out.trans FX).ge F3 HG.out))
          all_goals (
            have HR2 : Hid (∃ fp L, IsWheel w3 b fp now (i + 1) L ∧ Calls1 L (putV (dueAt now xs) (fun _ => true) (i + 1)) ∧ (∀ x ∈ fp, w.heap.size ≤ x) ∧ Fr [] w w3) := Lib.hid (by
              refine ⟨fp', insE e L, hI3, ?_, U3.ge HG.out (Nat.le_trans hwr FX.size), FP⟩
              have := HV.out.ins hk (d := D) (by rw [hdu]; omega)
              rw [← HDN.out] at this
              exact this)
            clear hk hdu hsq hI3 U3 F3 FP FX
            go_wp2_with fail
            go_roundw
            case rel => exact ⟨i + 1, by omega, by omega, by go_num, HR2⟩
            case measure => simp [intOf]; omega)
      · go_wp2_with fail
        go_ret
        have : i = 60 := by omega
        subst this
        have hm : min xs.length 60 = 60 := by omega
        rw [hm]
        obtain ⟨fp, L, q1, q2, q3, q4⟩ := HR.out
        exact ⟨b, fp, L, rfl, q1, q2, q3, q4⟩
    · go_wp2_with fail
      go_ret
      have hm : min xs.length 60 = i := by omega
      rw [hm]
      obtain ⟨fp, L, q1, q2, q3, q4⟩ := HR.out
      exact ⟨b, fp, L, rfl, q1, q2, q3, q4⟩
end Go.Proofs.Ytibnhfnidgfenaa
