/-
  Words, and contracts of functions of the program and of the document, for this seat's claims: each is a lemma on the way; conditions stand in each lemma.
-/
import Derived.Test.YtcnkhjgpjchkeaaZ3
import Derived.Deep.MidRow
namespace Go.Proofs.Ytcnkhjgpjchkeaa
open Go.RowKit

def wh (b : Bool) (x : Int) : Int := if b then x else 0
theorem when_spec (w : World) (x : Bool) (lo hi : Int) :
    Calls Try.prog 91 #[.bool x, .int .i64 lo, .int .i64 hi] w fun e w' => e = .returned (.agg #[.int .i64 (wh x lo), .int .i64 (wh x hi)]) ∧ Fr [] w w' := by
  cases x with
  | true =>
    go_enter Try.func91, Try.ntmps91
    go_wp2_with fail
    refine bodyPost_ret (v := .agg #[.int .i64 lo, .int .i64 hi]) (by simp [results, Try.results91, go_sem]) rfl ?_
    exact ⟨rfl, (Fr.refl _ _).alloc _⟩
  | false =>
    go_enter Try.func91, Try.ntmps91
    go_wp2_with fail
    refine bodyPost_ret (v := .agg #[.int .i64 0, .int .i64 0]) (by simp [results, Try.results91, go_sem]) rfl ?_
    exact ⟨rfl, (Fr.refl _ _).alloc _⟩

/-- The fields as numbers. -/
def CF.put (k : CF) : Array Value := #[.int .i64 k.mode, .int .i64 k.pool, .int .i64 k.queue, .int .i64 k.sem, .int .i64 k.fb, .int .i64 k.ch, .int .i64 (wrap64 k.t), .int .i64 (wrap64 k.ft), .int .i64 k.vo, .int .i64 k.pe, .int .i64 (wrap64 k.sl), .int .i64 k.bu, .int .i64 (wrap64 k.wi), .int .i64 (wrap64 k.wd), .int .i64 k.ba, .int .i64 k.fo]
set_option maxHeartbeats 2000000 in
set_option maxRecDepth 20000 in
theorem put_spec (w : World) (k : CF) : Calls Try.prog 58 #[k.val] w fun e w' => e = .returned (.agg k.put) ∧ Fr [] w w' := by
  go_enter Try.func58, Try.ntmps58
  go_wp2_with fail
  refine bodyPost_ret (v := .agg #[.int .i64 k.mode, .int .i64 k.pool, .int .i64 k.queue, .int .i64 k.sem, .int .i64 k.fb, .int .i64 k.ch, .int .i64 (wrap64 k.t), .int .i64 (wrap64 k.ft), .int .i64 k.vo, .int .i64 k.pe, .int .i64 (wrap64 k.sl), .int .i64 k.bu, .int .i64 (wrap64 k.wi), .int .i64 (wrap64 k.wd), .int .i64 k.ba, .int .i64 k.fo]) (by simp [results, Try.results58, go_sem]) rfl ?_
  exact ⟨rfl, ((Fr.refl _ _).alloc _).alloc _⟩

theorem FCells.setCells {b : Nat} {E : TypeId} {n : Nat} : ∀ (vs : List Value) (o : Nat) (w : World) (f : Nat → Value), FCells w b E n f → FCells (w.setCells b o vs) b E n (fun j => if o ≤ j ∧ j < o + vs.length then vs.getD (j - o) undef else f j)
  | [], o, w, f, h => h.congr (fun j _ => by rw [if_neg (by rintro ⟨h1, h2⟩; simp at h2; omega)])
  | v :: vs, o, _, f, h => (FCells.setCells vs (o + 1) _ _ (h.set o v)).congr (fun j _ => by
      rw [List.length_cons]
      by_cases e : j = o
      · subst e; rw [if_neg (by omega), if_pos rfl, if_pos (by omega), Nat.sub_self]; rfl
      · by_cases h2 : o + 1 ≤ j ∧ j < o + 1 + vs.length
        · rw [if_pos h2, if_pos (by omega), show j - o = (j - (o + 1)) + 1 by omega, List.getD_cons_succ]
        · rw [if_neg h2, if_neg e, if_neg (by omega)])
theorem Fr.setCells {S : List Nat} {a : World} {b : Nat} (hb : b ∈ S ∨ a.heap.size ≤ b) : ∀ (vs : List Value) (o : Nat) (w : World), Fr S a w → Fr S a (w.setCells b o vs)
  | [], _, _, h => h
  | v :: vs, o, _, h => Fr.setCells hb vs (o + 1) _ (h.setCell (p := ⟨b, o, none⟩) hb v)

theorem row_setCells {w : World} {b : Nat} {a : Array Value} {E : TypeId} (h : w.heap[b]? = some (.cells a E (0, 0))) (cs : List Value) (hl : cs.length = a.size) :
    (w.setCells b 0 cs).heap[b]? = some (.cells cs.toArray E (0, 0)) := by
  have h0 : FCells w b E a.size (fun i => a.getD i undef) := FCells.of_arr (by
    rw [h]; congr 2; apply Array.ext
    · simp
    · intro i h1 h2; simp [h1])
  have h1 := (FCells.setCells cs 0 w _ h0).arr
  rw [h1]; congr 2; apply Array.ext
  · simp [hl]
  · intro i h2 h3; simp at h2; simp [hl, h2, Array.getD, List.getD_eq_getElem?_getD]

/-- The bounds of all fields. -/
def mayV (p q r : Bool) : Array Value := #[.int .i64 1, .int .i64 2, .int .i64 (wh p 1), .int .i64 (wh p 8), .int .i64 (wh p 0), .int .i64 (wh p 8), .int .i64 (wh q 1), .int .i64 (wh q 8), .int .i64 0, .int .i64 4, .int .i64 0, .int .i64 3, .int .i64 1, .int .i64 1099511627776, .int .i64 1, .int .i64 1099511627776, .int .i64 1, .int .i64 1000, .int .i64 0, .int .i64 100, .int .i64 0, .int .i64 1099511627776, .int .i64 1, .int .i64 8, .int .i64 1, .int .i64 1099511627776, .int .i64 0, .int .i64 1099511627776, .int .i64 (wh r 1), .int .i64 (wh r 4), .int .i64 0, .int .i64 2]
set_option maxHeartbeats 4000000 in
set_option maxRecDepth 20000 in
theorem may_spec (w : World) (k : CF) (p q r : Bool) (hp : p = (k.mode == 1)) (hq : q = (k.mode == 2)) (hr : r = decide (0 < k.wd)) :
    Calls Try.prog 59 #[k.val] w fun e w' => e = .returned (.agg (mayV p q r)) ∧ Fr [] w w' := by
  have HW := Lib.hid (fun (w' : World) (x : Bool) (lo hi : Int) => when_spec w' x lo hi)
  have HF := Lib.hid (((Fr.refl [] w).alloc (.cells #[.int .i64 k.mode, .int .i64 k.pool, .int .i64 k.queue, .int .i64 k.sem, .int .i64 k.fb, .int .i64 k.ch, .int .u64 k.t, .int .u64 k.ft, .int .i64 k.vo, .int .i64 k.pe, .int .u64 k.sl, .int .i64 k.bu, .int .u64 k.wi, .int .u64 k.wd, .int .i64 k.ba, .int .i64 k.fo] 24)).alloc (.cells #[.int .i64 0, .int .i64 0, .int .i64 0, .int .i64 0, .int .i64 0, .int .i64 0, .int .i64 0, .int .i64 0, .int .i64 0, .int .i64 0, .int .i64 0, .int .i64 0, .int .i64 0, .int .i64 0, .int .i64 0, .int .i64 0, .int .i64 0, .int .i64 0, .int .i64 0, .int .i64 0, .int .i64 0, .int .i64 0, .int .i64 0, .int .i64 0, .int .i64 0, .int .i64 0, .int .i64 0, .int .i64 0, .int .i64 0, .int .i64 0, .int .i64 0, .int .i64 0] 139))
  have HB := Lib.hid (block_alloc (block_alloc_new w (.cells #[.int .i64 k.mode, .int .i64 k.pool, .int .i64 k.queue, .int .i64 k.sem, .int .i64 k.fb, .int .i64 k.ch, .int .u64 k.t, .int .u64 k.ft, .int .i64 k.vo, .int .i64 k.pe, .int .u64 k.sl, .int .i64 k.bu, .int .u64 k.wi, .int .u64 k.wd, .int .i64 k.ba, .int .i64 k.fo] 24)) (.cells #[.int .i64 0, .int .i64 0, .int .i64 0, .int .i64 0, .int .i64 0, .int .i64 0, .int .i64 0, .int .i64 0, .int .i64 0, .int .i64 0, .int .i64 0, .int .i64 0, .int .i64 0, .int .i64 0, .int .i64 0, .int .i64 0, .int .i64 0, .int .i64 0, .int .i64 0, .int .i64 0, .int .i64 0, .int .i64 0, .int .i64 0, .int .i64 0, .int .i64 0, .int .i64 0, .int .i64 0, .int .i64 0, .int .i64 0, .int .i64 0, .int .i64 0, .int .i64 0] 139))
  have hz := block_alloc_new (w.alloc (.cells #[.int .i64 k.mode, .int .i64 k.pool, .int .i64 k.queue, .int .i64 k.sem, .int .i64 k.fb, .int .i64 k.ch, .int .u64 k.t, .int .u64 k.ft, .int .i64 k.vo, .int .i64 k.pe, .int .u64 k.sl, .int .i64 k.bu, .int .u64 k.wi, .int .u64 k.wd, .int .i64 k.ba, .int .i64 k.fo] 24)) (.cells #[.int .i64 0, .int .i64 0, .int .i64 0, .int .i64 0, .int .i64 0, .int .i64 0, .int .i64 0, .int .i64 0, .int .i64 0, .int .i64 0, .int .i64 0, .int .i64 0, .int .i64 0, .int .i64 0, .int .i64 0, .int .i64 0, .int .i64 0, .int .i64 0, .int .i64 0, .int .i64 0, .int .i64 0, .int .i64 0, .int .i64 0, .int .i64 0, .int .i64 0, .int .i64 0, .int .i64 0, .int .i64 0, .int .i64 0, .int .i64 0, .int .i64 0, .int .i64 0] 139)
  rw [World.size_alloc] at hz
  have HZ := Lib.hid hz
  obtain ⟨w2, hw2⟩ : ∃ w2, w2 = (w.alloc (.cells #[.int .i64 k.mode, .int .i64 k.pool, .int .i64 k.queue, .int .i64 k.sem, .int .i64 k.fb, .int .i64 k.ch, .int .u64 k.t, .int .u64 k.ft, .int .i64 k.vo, .int .i64 k.pe, .int .u64 k.sl, .int .i64 k.bu, .int .u64 k.wi, .int .u64 k.wd, .int .i64 k.ba, .int .i64 k.fo] 24)).alloc (.cells #[.int .i64 0, .int .i64 0, .int .i64 0, .int .i64 0, .int .i64 0, .int .i64 0, .int .i64 0, .int .i64 0, .int .i64 0, .int .i64 0, .int .i64 0, .int .i64 0, .int .i64 0, .int .i64 0, .int .i64 0, .int .i64 0, .int .i64 0, .int .i64 0, .int .i64 0, .int .i64 0, .int .i64 0, .int .i64 0, .int .i64 0, .int .i64 0, .int .i64 0, .int .i64 0, .int .i64 0, .int .i64 0, .int .i64 0, .int .i64 0, .int .i64 0, .int .i64 0] 139) := ⟨_, rfl⟩
  rw [← hw2] at HF HB HZ
  have HW2 := Lib.hid hw2
  have c0 : w2.cell? ⟨w.heap.size, 0, none⟩ = some (.int .i64 k.mode) := by rw [cell_of_block HB.out]; rfl
  have c13 : w2.cell? ⟨w.heap.size, 13, none⟩ = some (.int .u64 k.wd) := by rw [cell_of_block HB.out]; rfl
  have hp' : (k.mode == 1) = p := hp.symm
  have hq' : (k.mode == 2) = q := hq.symm
  have hr' : decide (0 < k.wd) = r := hr.symm
  clear hw2 hz hp hq hr
  · go_enter Try.func59, Try.ntmps59
    go_wp2_with fail
    rw [← HW2.out]
    go_quiet (fail)
    go_wp2_with fail
    have KS : Hid (∀ w' : World, Fr [] w2 w' → w'.cell? ⟨w.heap.size, 13, none⟩ = some (.int .u64 k.wd) ∧ w'.there (w.heap.size + 1) 0 32) := Lib.hid (fun w' F => ⟨by rw [cell_of_block (F.keep HB.out (by simp))]; rfl, fun j hj => ⟨by rw [Nat.zero_add, cell_of_block (F.keep HZ.out (by simp))]; simp; omega, free_of_block (F.keep HZ.out (by simp)) _⟩⟩)
    have KN : Hid (∀ (w' : World) (cs : List Value), Fr [] w2 w' → (w'.setCells (w.heap.size + 1) 0 cs).cell? ⟨w.heap.size, 13, none⟩ = some (.int .u64 k.wd) ∧ (w'.setCells (w.heap.size + 1) 0 cs).there (w.heap.size + 1) 0 32) := Lib.hid (fun w' cs F => ⟨by rw [World.cell?_setCells_out _ _ _ _ ⟨w.heap.size, 13, none⟩ (fun e => by simp at e)]; exact (KS.out w' F).1, World.there_setCells (KS.out w' F).2 _ _ _⟩)
    have ho : ∀ v ∈ [((.int .i64 1) : Value), ((.int .i64 2) : Value), ((.int .i64 (wh p 1)) : Value), ((.int .i64 (wh p 8)) : Value), ((.int .i64 (wh p 0)) : Value), ((.int .i64 (wh p 8)) : Value), ((.int .i64 (wh q 1)) : Value), ((.int .i64 (wh q 8)) : Value), ((.int .i64 0) : Value), ((.int .i64 4) : Value), ((.int .i64 0) : Value), ((.int .i64 3) : Value), ((.int .i64 1) : Value), ((.int .i64 1099511627776) : Value), ((.int .i64 1) : Value), ((.int .i64 1099511627776) : Value), ((.int .i64 1) : Value), ((.int .i64 1000) : Value), ((.int .i64 0) : Value), ((.int .i64 100) : Value), ((.int .i64 0) : Value), ((.int .i64 1099511627776) : Value), ((.int .i64 1) : Value), ((.int .i64 8) : Value), ((.int .i64 1) : Value), ((.int .i64 1099511627776) : Value), ((.int .i64 0) : Value), ((.int .i64 1099511627776) : Value), ((.int .i64 (wh r 1)) : Value), ((.int .i64 (wh r 4)) : Value), ((.int .i64 0) : Value), ((.int .i64 2) : Value)], v.oneCell' = true := by intro v hv; simp only [List.mem_cons, List.not_mem_nil, or_false] at hv; rcases hv with rfl | rfl | rfl | rfl | rfl | rfl | rfl | rfl | rfl | rfl | rfl | rfl | rfl | rfl | rfl | rfl | rfl | rfl | rfl | rfl | rfl | rfl | rfl | rfl | rfl | rfl | rfl | rfl | rfl | rfl | rfl | rfl <;> rfl
    have hu := Try.underlying139
    have hi : (Try.prog.info? 139).map (·.size) = some 32 := by kernel_rfl
    clear c0 c13
    have FX : Fr [] w2 (w2.drewN nq) := Fr.of_drewN _ _
    go_region_held3 (fun w' => w'.cell? ⟨w.heap.size, 13, none⟩ = some (.int .u64 k.wd) ∧ w'.there (w.heap.size + 1) 0 32)
      (first | with_reducible exact KN.out _ _ (by with_reducible repeat (first | exact FX | exact Fr.refl _ _ | apply Fr.drew | apply Fr.drewN | apply Fr.alloc)) | with_reducible exact KS.out _ (by with_reducible repeat (first | exact FX | exact Fr.refl _ _ | apply Fr.drew | apply Fr.drewN | apply Fr.alloc)))
      (first | (go_at_call 91; refine (HW.out _ _ _ _).mono ?_; rintro e wA ⟨rfl, F⟩; have FX : Fr [] w2 wA := Fr.trans (by with_reducible repeat (first | exact FX | exact Fr.refl _ _ | apply Fr.drew | apply Fr.drewN | apply Fr.alloc)) F; clear F))
    have HA := FX.keep HZ.out (by simp)
    have HR : ∀ cs : List Value, cs.length = 32 → (wA.setCells (w.heap.size + 1) 0 cs).heap[w.heap.size + 1]? = some (.cells cs.toArray 139 (0, 0)) := fun cs hl => row_setCells HA cs hl
    have HT : ∀ cs : List Value, Fr [] w (wA.setCells (w.heap.size + 1) 0 cs) := fun cs => Fr.setCells (.inr (by omega)) cs 0 _ (HF.out.trans FX)
    go_wp2_with fail
    refine bodyPost_ret (results_cell_row rfl _ _ _ _ _ _ _ rfl (HR _ rfl) hu rfl hi) rfl ?_
    exact ⟨rfl, HT _⟩
end Go.Proofs.Ytcnkhjgpjchkeaa
