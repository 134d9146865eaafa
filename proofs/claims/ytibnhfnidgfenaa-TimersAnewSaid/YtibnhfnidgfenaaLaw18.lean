/-
  A deed, of the clock and of the document's; a clock behind deeds; awake.
-/
import Derived.Test.YtibnhfnidgfenaaTimV
import Derived.Test.YtibnhfnidgfenaaDe
import Derived.Deep.RegionHeld3
import Derived.Deep.CutRange
namespace Go.Proofs.Ytibnhfnidgfenaa
open Go.RowKit

/-- A deed. -/
def Cs.do (s : Cs) (d : De) : Cs := if d.kind = 1 then s.set (d.k1, d.k2) (sadd s.now d.t) else if d.kind = 2 then s.stop (d.k1, d.k2) else if d.kind = 3 then s.go d.t else s.next
/-- A clock, and what the document has of it. -/
def CRV (w : World) (c : Nat) (fp : List Nat) (s : Cs) (n : Nat) (v : Value) : Prop := CkV w c fp s n ∧ Ons w v s.l ∧ ∀ g, v.ownBlock = some g → g ∉ fp ∧ g < w.heap.size
variable {w : World} {c : Nat} {fp : List Nat} {s : Cs} {n : Nat} {v : Value}
theorem CkV.more (h : CkV w c fp s n) {m : Nat} (hm : n ≤ m) : CkV w c fp s m := by
  obtain ⟨seq, L, h1, h2, h3, h4⟩ := h
  exact ⟨seq, L, h1, h2, Nat.le_trans h3 hm, h4⟩
theorem CRV.fr (h : CRV w c fp s n v) {w' : World} {S : List Nat} (F : Fr S w w') (h1 : ∀ x ∈ S, x ∉ fp ∧ v.ownBlock ≠ some x) : CRV w' c fp s n v :=
  ⟨h.1.fr F (fun x hx => (h1 x hx).1), h.2.1.frB F (fun g hg hm => (h1 g hm).2 hg), fun g hg => ⟨(h.2.2 g hg).1, Nat.lt_of_lt_of_le (h.2.2 g hg).2 F.size⟩⟩
theorem CRV.fr0 (h : CRV w c fp s n v) {w' : World} (F : Fr [] w w') : CRV w' c fp s n v := h.fr F (by simp)
theorem CRV.form (h : CRV w c fp s n v) : ∃ a k, v = .slice a s.l.length k := by
  obtain ⟨a, k, h1, -⟩ := h.2.1
  exact ⟨a, k, h1⟩
/-- Behind a deed. -/
def Did (w : World) (c : Nat) (fp : List Nat) (v : Value) (s' : Cs) (n' : Nat) (v' : Value) (w' : World) : Prop := ∃ fp', CRV w' c fp' s' n' v' ∧ Sub fp' fp w ∧ Fr fp w w' ∧ OwnOf w w' v v'
theorem did_mk {wa w5 w6 w6' w7 : World} {s' : Cs} {n' : Nat} {v' : Value} {l' : List On} {Z : Nat} (h : CRV w c fp s n v) (Fa : Fr [] w wa) (k5 : CkTo wa c fp s' n' w5) (hn : n' ≤ n + 1)
    (ho : Ons w6 v' l') (hl : l' = s'.l) (hw : OwnOf w5 w6 v v') (F6 : Fr [] w5 w6) (F6' : Fr [] w6 w6') (hz : w.heap.size ≤ Z ∧ Z < wa.heap.size) (FZ : Fr [Z] w6' w7) : Did w c fp v s' (n + 1) v' w7 := by
  subst hl
  obtain ⟨fp', h5, U5, F5⟩ := k5
  have hlt := h.1.lt
  have sa := Fa.size
  have s5 := F5.size
  have s6 := F6.size
  have s7 := F6'.size
  have s8 := FZ.size
  have hv : ∀ g, v'.ownBlock = some g → (v.ownBlock = some g ∧ g ∉ fp ∧ g < w.heap.size) ∨ (w5.heap.size ≤ g ∧ g < w6.heap.size) := fun g hg => by
    rcases hw g hg with h1 | h1
    · exact .inl ⟨h1, h.2.2 g h1⟩
    · exact .inr h1
  have hZ' : Z ∉ fp' := fun hm => by
    rcases U5 _ hm with h1 | h1
    · have := hlt _ h1; omega
    · omega
  have hZv : v'.ownBlock ≠ some Z := fun he => by
    rcases hv _ he with h1 | h1 <;> omega
  have F1 : Fr fp w w5 := (Fa.mono (by simp)).trans F5
  have F2 : Fr fp w w6' := F1.trans ((F6.trans F6').mono (by simp))
  refine ⟨fp', CRV.fr (S := [Z]) (w := w6') ⟨((h5.fr (F6.trans F6') (by simp)).more hn), ho.fr F6', fun g hg => ?_⟩ FZ (fun x hx => by simp at hx; subst hx; exact ⟨hZ', hZv⟩), U5.down sa, F2.trans' FZ (fun x hx => .inr (by simp at hx; omega)), fun g hg => ?_⟩
  · rcases hv g hg with h1 | h1
    · refine ⟨fun hm => ?_, by omega⟩
      rcases U5 _ hm with h2 | h2
      · exact h1.2.1 h2
      · omega
    · exact ⟨fun hm => by have := h5.lt _ hm; omega, by omega⟩
  · rcases hv g hg with h1 | h1
    · exact .inl h1.1
    · exact .inr (by omega)
/-- What do tells. -/
def DoTo18 (w : World) (c : Nat) (fp : List Nat) (s : Cs) (n : Nat) (v : Value) (d : De) (e : Ending) (w' : World) : Prop :=
  ∃ v', e = .returned (.tuple #[.agg #[.int .u64 (s.do d).now, v', .int .u64 (s.do d).goal], .bool true]) ∧ Did w c fp v (s.do d) (n + 1) v' w'

set_option maxHeartbeats 4000000 in
set_option maxRecDepth 20000 in
theorem do18_spec (h : CRV w c fp s n v) (hn : n < 50000) (d : De) (ht : d.t < 18446744073709551616) :
    Calls Try.prog 31 #[.pointer (some ⟨c, 0, none⟩), .agg #[.int .u64 s.now, v, .int .u64 s.goal], .agg #[.int .i64 d.kind, .int .i64 d.k1, .int .i64 d.k2, .int .u64 d.t]] w (DoTo18 w c fp s n v d) := by
  have hok := h.1.ok
  have hnow : s.now < 18446744073709551616 := by have := hok.le; have := hok.lt; omega
  have hlen : s.l.length ≤ 60000 := by have := hok.len; omega
  have H := Lib.hid h
  have hfpl := h.1.lt
  have hfp0 : w.heap.size ∉ fp := fun hm => by have := hfpl _ hm; omega
  have hfp1 : w.heap.size + 1 ∉ fp := fun hm => by have := hfpl _ hm; omega
  have hfp2 : w.heap.size + 2 ∉ fp := fun hm => by have := hfpl _ hm; omega
  have HOK := Lib.hid hok
  obtain ⟨va, vc, rfl⟩ := h.form
  obtain ⟨kind, k1, k2, t⟩ := d
  simp only at ht ⊢
  have HF3 := Lib.hid ((((Fr.refl [] w).alloc (.cells #[.int .u64 s.now, .slice va s.l.length vc, .int .u64 s.goal] 61)).alloc (.cells #[.int .i64 kind, .int .i64 k1, .int .i64 k2, .int .u64 t] 64)).alloc (.cells #[.int .u64 0, .slice none 0 0, .int .u64 0] 61))
  have HA := Lib.hid ((((Fr.refl [] _).alloc (.cells #[.int .i64 kind, .int .i64 k1, .int .i64 k2, .int .u64 t] 64)).alloc (.cells #[.int .u64 0, .slice none 0 0, .int .u64 0] 61)).keep (block_alloc_new w (.cells #[.int .u64 s.now, .slice va s.l.length vc, .int .u64 s.goal] 61)) (by simp))
  have HD := Lib.hid (((Fr.refl [] _).alloc (.cells #[.int .u64 0, .slice none 0 0, .int .u64 0] 61)).keep (block_alloc_new (w.alloc (.cells #[.int .u64 s.now, .slice va s.l.length vc, .int .u64 s.goal] 61)) (.cells #[.int .i64 kind, .int .i64 k1, .int .i64 k2, .int .u64 t] 64)) (by simp))
  have HZ := Lib.hid (block_alloc_new ((w.alloc (.cells #[.int .u64 s.now, .slice va s.l.length vc, .int .u64 s.goal] 61)).alloc (.cells #[.int .i64 kind, .int .i64 k1, .int .i64 k2, .int .u64 t] 64)) (.cells #[.int .u64 0, .slice none 0 0, .int .u64 0] 61))
  rw [show (w.alloc (.cells #[.int .u64 s.now, .slice va s.l.length vc, .int .u64 s.goal] 61)).heap.size = w.heap.size + 1 by simp] at HD
  rw [show ((w.alloc (.cells #[.int .u64 s.now, .slice va s.l.length vc, .int .u64 s.goal] 61)).alloc (.cells #[.int .i64 kind, .int .i64 k1, .int .i64 k2, .int .u64 t] 64)).heap.size = w.heap.size + 2 by simp] at HZ
  obtain ⟨w3, hw3⟩ : ∃ w3, w3 = ((w.alloc (.cells #[.int .u64 s.now, .slice va s.l.length vc, .int .u64 s.goal] 61)).alloc (.cells #[.int .i64 kind, .int .i64 k1, .int .i64 k2, .int .u64 t] 64)).alloc (.cells #[.int .u64 0, .slice none 0 0, .int .u64 0] 61) := ⟨_, rfl⟩
  rw [← hw3] at HF3 HA HD HZ
  have HW3 := Lib.hid hw3
  have hz3 : w.heap.size ≤ w.heap.size + 2 ∧ w.heap.size + 2 < w3.heap.size := ⟨by omega, lt_of_block HZ.out⟩
  have hvl : ∀ g, (Value.slice va s.l.length vc).ownBlock = some g → g ∉ fp ∧ g < w.heap.size := H.out.2.2
  have HVL := Lib.hid hvl
  clear hw3 h hok hfpl hvl
  go_enter Try.func31, Try.ntmps31
  go_upto_region 1 with fail
  rw [← HW3.out]
  obtain ⟨x0, x1, x2⟩ := three_cells HA.out
  obtain ⟨d0, d1, d2, d3⟩ := dcells HD.out
  by_cases c1 : kind = 1
  · subst c1
    have HAd := Lib.hid (fun wx => refadd_spec wx s.now t hnow ht)
    have hD64 := sadd_lt s.now t
    have HDo : Hid (s.do ⟨1, k1, k2, t⟩ = s.set (k1, k2) (sadd s.now t)) := Lib.hid (by simp [Cs.do])
    go_wp2_with fail
    refine (HAd.out _).mono ?_
    rintro r wx ⟨rfl, hwx⟩
    subst hwx
    go_wp2_with fail
    refine ((H.out.1.fr HF3.out (by simp)).set hn k1 k2 (sadd s.now t) hD64).mono ?_
    rintro r w5 ⟨rfl, K5⟩
    have HK5 := Lib.hid K5
    obtain ⟨fp', h5, U5, F5⟩ := K5
    have HB5 := Lib.hid (And.intro (F5.keep HA.out hfp0) (And.intro (F5.keep HD.out hfp1) (F5.keep HZ.out hfp2)))
    have HRf := Lib.hid (refset18 (H.out.2.1.frB ((HF3.out.mono (S' := fp) (by simp)).trans F5) (fun g hg => (HVL.out g hg).1)) hlen HOK.out.keys (fun g hg => Nat.lt_of_lt_of_le (HVL.out g hg).2 ((HF3.out.mono (S' := fp) (by simp)).trans F5).size) s.now s.goal k1 k2 (sadd s.now t))
    obtain ⟨x0, x1, x2⟩ := three_cells HB5.out.1
    obtain ⟨d0, d1, d2, d3⟩ := dcells HB5.out.2.1
    clear h5 U5 F5
    go_wp2_with fail
    refine HRf.out.mono ?_
    rintro r w6 ⟨v', rfl, h1, h2, F6⟩
    obtain ⟨a6, c6, rfl, -⟩ := id h1
    have HZ6 := Lib.hid (F6.keep HB5.out.2.2 (by simp))
    obtain ⟨z0, z1, z2⟩ := three_cells HZ6.out
    have hzf := free_of_block HZ6.out
    have HR := Lib.hid (fun w7 (FZ : Fr [w.heap.size + 2] w6 w7) => did_mk H.out HF3.out HK5.out (Nat.le_refl _) h1 rfl h2 F6 (Fr.refl _ _) hz3 FZ)
    clear h1 h2 F6
    go_wp2_with fail
    obtain ⟨s0, s1, s2⟩ := three_cells (set3 HZ6.out (.int .u64 s.now) (.slice a6 (insO ⟨k1, k2, max (sadd s.now t) s.now⟩ (lessO (k1, k2) s.l)).length c6) (.int .u64 s.goal))
    refine bodyPost_ret (v := .tuple #[.agg #[.int .u64 s.now, .slice a6 (insO ⟨k1, k2, max (sadd s.now t) s.now⟩ (lessO (k1, k2) s.l)).length c6, .int .u64 s.goal], .bool true]) (by simp [results, Try.results31, go_sem, s0, s1, s2]) rfl ⟨_, by rw [HDo.out]; rfl, by rw [HDo.out]; exact HR.out _ (set3_fr ..)⟩
  by_cases c2 : kind = 2
  · subst c2
    have HDo : Hid (s.do ⟨2, k1, k2, t⟩ = s.stop (k1, k2)) := Lib.hid (by simp [Cs.do])
    go_wp2_with fail
    refine ((H.out.1.fr HF3.out (by simp)).stop (by omega) k1 k2).mono ?_
    rintro r w5 ⟨rfl, K5⟩
    have HK5 := Lib.hid K5
    obtain ⟨fp', h5, U5, F5⟩ := K5
    have HB5 := Lib.hid (And.intro (F5.keep HA.out hfp0) (And.intro (F5.keep HD.out hfp1) (F5.keep HZ.out hfp2)))
    have HRf := Lib.hid (refstop18 (H.out.2.1.frB ((HF3.out.mono (S' := fp) (by simp)).trans F5) (fun g hg => (HVL.out g hg).1)) hlen HOK.out.keys (fun g hg => Nat.lt_of_lt_of_le (HVL.out g hg).2 ((HF3.out.mono (S' := fp) (by simp)).trans F5).size) s.now s.goal k1 k2)
    generalize (onOf s.l (k1, k2)).isSome = I at *
    obtain ⟨x0, x1, x2⟩ := three_cells HB5.out.1
    obtain ⟨d0, d1, d2, d3⟩ := dcells HB5.out.2.1
    clear h5 U5 F5
    go_wp2_with fail
    refine HRf.out.mono ?_
    rintro r w6 ⟨v', rfl, h1, h2, F6⟩
    obtain ⟨a6, c6, rfl, -⟩ := id h1
    have HZ6 := Lib.hid (F6.keep HB5.out.2.2 (by simp))
    have FW := (Fr.refl [] w6).alloc (.cells #[.int .u64 s.now, .slice a6 (lessO (k1, k2) s.l).length c6, .int .u64 s.goal] 61)
    obtain ⟨z0, z1, z2⟩ := three_cells HZ6.out
    have hzf := free_of_block HZ6.out
    obtain ⟨zz0, zz1, zz2⟩ := three_cells (FW.keep HZ6.out (by simp))
    have hzzf := free_of_block (FW.keep HZ6.out (by simp))
    have HZW := Lib.hid (FW.keep HZ6.out (by simp))
    have HR := Lib.hid (fun w7 (FZ : Fr [w.heap.size + 2] (w6.alloc (.cells #[.int .u64 s.now, .slice a6 (lessO (k1, k2) s.l).length c6, .int .u64 s.goal] 61)) w7) => did_mk H.out HF3.out HK5.out (by omega) h1 rfl h2 F6 FW hz3 FZ)
    clear h1 h2 F6 FW
    go_wp2_with fail
    obtain ⟨s0, s1, s2⟩ := three_cells (set3 HZW.out (.int .u64 s.now) (.slice a6 (lessO (k1, k2) s.l).length c6) (.int .u64 s.goal))
    refine bodyPost_ret (v := .tuple #[.agg #[.int .u64 s.now, .slice a6 (lessO (k1, k2) s.l).length c6, .int .u64 s.goal], .bool true]) (by simp [results, Try.results31, go_sem, s0, s1, s2]) rfl ⟨_, by rw [HDo.out]; rfl, by rw [HDo.out]; exact HR.out _ (set3_fr ..)⟩
  by_cases c3 : kind = 3
  · subst c3
    have HDo : Hid (s.do ⟨3, k1, k2, t⟩ = s.go t) := Lib.hid (by simp [Cs.do])
    go_wp2_with fail
    refine ((H.out.1.fr HF3.out (by simp)).go t).mono ?_
    rintro r w5 ⟨rfl, K5⟩
    have HK5 := Lib.hid K5
    obtain ⟨fp', h5, U5, F5⟩ := K5
    have HB5 := Lib.hid (And.intro (F5.keep HA.out hfp0) (And.intro (F5.keep HD.out hfp1) (F5.keep HZ.out hfp2)))
    have HO5 := Lib.hid (H.out.2.1.frB ((HF3.out.mono (S' := fp) (by simp)).trans F5) (fun g hg => (HVL.out g hg).1))
    have HRf := Lib.hid (refgo18 HO5.out s.now s.goal t HOK.out.lt ht)
    obtain ⟨x0, x1, x2⟩ := three_cells HB5.out.1
    obtain ⟨d0, d1, d2, d3⟩ := dcells HB5.out.2.1
    clear h5 U5 F5
    go_wp2_with fail
    refine HRf.out.mono ?_
    rintro r w6 ⟨rfl, F6⟩
    have HZ6 := Lib.hid (F6.keep HB5.out.2.2 (by simp))
    obtain ⟨z0, z1, z2⟩ := three_cells HZ6.out
    have hzf := free_of_block HZ6.out
    have HR := Lib.hid (fun w7 (FZ : Fr [w.heap.size + 2] w6 w7) => did_mk H.out HF3.out HK5.out (by omega) (HO5.out.fr F6) rfl (fun g hg => .inl hg) F6 (Fr.refl _ _) hz3 FZ)
    clear F6
    go_wp2_with fail
    obtain ⟨s0, s1, s2⟩ := three_cells (set3 HZ6.out (.int .u64 s.now) (.slice va s.l.length vc) (.int .u64 (sadd s.goal t : Nat)))
    refine bodyPost_ret (v := .tuple #[.agg #[.int .u64 s.now, .slice va s.l.length vc, .int .u64 (sadd s.goal t : Nat)], .bool true]) (by simp [results, Try.results31, go_sem, s0, s1, s2]) rfl ⟨_, by rw [HDo.out]; rfl, by rw [HDo.out]; exact HR.out _ (set3_fr ..)⟩
  have hk1 : (kind == 1) = false := by simpa using c1
  have hk2 : (kind == 2) = false := by simpa using c2
  have hk3 : (kind == 3) = false := by simpa using c3
  have HDo : Hid (s.do ⟨kind, k1, k2, t⟩ = s.next) := Lib.hid (by simp [Cs.do, c1, c2, c3])
  go_wp2_with fail
  refine ((H.out.1.fr HF3.out (by simp)).next (by omega)).mono ?_
  rintro r w5 ⟨rfl, K5⟩
  have HK5 := Lib.hid K5
  obtain ⟨fp', h5, U5, F5⟩ := K5
  have HB5 := Lib.hid (And.intro (F5.keep HA.out hfp0) (And.intro (F5.keep HD.out hfp1) (F5.keep HZ.out hfp2)))
  have HO5 := Lib.hid (H.out.2.1.frB ((HF3.out.mono (S' := fp) (by simp)).trans F5) (fun g hg => (HVL.out g hg).1))
  have HV5 : Hid (∀ g, (Value.slice va s.l.length vc).ownBlock = some g → g < w5.heap.size) := Lib.hid (fun g hg => Nat.lt_of_lt_of_le (HVL.out g hg).2 ((HF3.out.mono (S' := fp) (by simp)).trans F5).size)
  clear h5 U5 F5
  cases hc : s.comes with
  | some e =>
    obtain ⟨hl, hle⟩ := Cs.comes_some hc
    have hlt : s.l.tail.length ≤ 60000 := by rw [List.length_tail]; omega
    have HNe : Hid (s.next = ⟨e.due, s.l.tail, s.goal⟩) := Lib.hid (by unfold Cs.next; rw [hc])
    generalize s.l.tail = tl at *
    simp only [keyV, Option.map_some, Option.getD_some, Option.isSome_some]
    have FK := (Fr.refl [] w5).alloc (.cells #[.int .i64 e.kind, .int .i64 e.id] 31)
    have HB6 := Lib.hid (And.intro (FK.keep HB5.out.1 (by simp)) (And.intro (FK.keep HB5.out.2.1 (by simp)) (FK.keep HB5.out.2.2 (by simp))))
    have HK6 := Lib.hid (block_alloc_new w5 (.cells #[.int .i64 e.kind, .int .i64 e.id] 31))
    obtain ⟨x0, x1, x2⟩ := three_cells HB6.out.1
    have HRf := Lib.hid (refnext18_yes (e := e) (l := tl) (by rw [← hl]; exact HO5.out.fr FK) hlt s.now s.goal (fun g hg => Nat.lt_of_lt_of_le (HV5.out g hg) FK.size) hle)
    clear FK hl hc hlt hle
    go_wp2_with fail
    refine HRf.out.mono ?_
    rintro r w6 ⟨v', rfl, h1, h2, F6⟩
    obtain ⟨a6, c6, rfl, -⟩ := id h1
    have HO6 := Lib.hid (And.intro h1 h2)
    clear h1 h2
    go_wp2_with fail
    have FK6 := ((Fr.refl [] w5).alloc (.cells #[.int .i64 e.kind, .int .i64 e.id] 31)).trans F6
    obtain ⟨w7, hw7⟩ : ∃ w7, w7 = (w6.alloc (.cells #[.int .u64 e.due, .slice a6 tl.length c6, .int .u64 s.goal] 61)).alloc (.cells #[.int .i64 e.kind, .int .i64 e.id] 31) := ⟨_, rfl⟩
    have F7 : Fr [] w6 w7 := hw7 ▸ (((Fr.refl [] _).alloc _).alloc _)
    have HY7 : w7.heap[w6.heap.size]? = some (.cells #[.int .u64 e.due, .slice a6 tl.length c6, .int .u64 s.goal] 61) := hw7 ▸ (((Fr.refl [] _).alloc _).keep (block_alloc_new w6 _) (by simp))
    have HM7 : w7.heap[w6.heap.size + 1]? = some (.cells #[.int .i64 e.kind, .int .i64 e.id] 31) := by
      have := block_alloc_new (w6.alloc (.cells #[.int .u64 e.due, .slice a6 tl.length c6, .int .u64 s.goal] 61)) (.cells #[.int .i64 e.kind, .int .i64 e.id] 31)
      rw [← hw7] at this
      simpa using this
    obtain ⟨y0, y1, y2⟩ := three_cells HY7
    obtain ⟨m0, m1⟩ := two_cells' HM7
    obtain ⟨q0, q1⟩ := two_cells' (F7.keep (F6.keep HK6.out (by simp)) (by simp))
    have HZ7 := Lib.hid (F7.keep (F6.keep HB6.out.2.2 (by simp)) (by simp))
    have HFs := Lib.hid (And.intro FK6 F7)
    have hs7 := F7.size
    clear F6 F7 FK6 HY7 HM7
    rw [← hw7]
    clear hw7
    obtain ⟨z0, z1, z2⟩ := three_cells HZ7.out
    have hzf := free_of_block HZ7.out
    go_wp2_with fail
    go_region
    all_goals (
      go_wp2_with fail
      obtain ⟨s0, s1, s2⟩ := three_cells (set3 HZ7.out (.int .u64 e.due) (.slice a6 tl.length c6) (.int .u64 s.goal))
      refine bodyPost_ret (v := .tuple #[.agg #[.int .u64 e.due, .slice a6 tl.length c6, .int .u64 s.goal], .bool true]) (by simp [results, Try.results31, go_sem, s0, s1, s2]) rfl ⟨_, by rw [HDo.out, HNe.out], by rw [HDo.out]; exact did_mk H.out HF3.out HK5.out (by omega) HO6.out.1 (by rw [HNe.out]) (OwnB.of (OwnOf.b HO6.out.2 (B := w5.heap.size) (C := w6.heap.size) (by simp) (Nat.le_refl _)) (Nat.le_refl _) (Nat.le_refl _)) HFs.out.1 HFs.out.2.drew hz3 (set3_fr w7.drew ..)⟩)
  | none =>
    have HNe : Hid (s.next = ⟨max s.now s.goal, s.l, s.goal⟩) := Lib.hid (by unfold Cs.next; rw [hc])
    have hno : ∀ e ∈ s.l, s.goal < e.due := Cs.comes_none HOK.out hc
    simp only [keyV, Option.map_none, Option.getD_none, Option.isSome_none]
    have FK := (Fr.refl [] w5).alloc (.cells #[.int .i64 0, .int .i64 0] 31)
    have HB6 := Lib.hid (And.intro (FK.keep HB5.out.1 (by simp)) (And.intro (FK.keep HB5.out.2.1 (by simp)) (FK.keep HB5.out.2.2 (by simp))))
    have HK6 := Lib.hid (block_alloc_new w5 (.cells #[.int .i64 0, .int .i64 0] 31))
    obtain ⟨x0, x1, x2⟩ := three_cells HB6.out.1
    have HRf := Lib.hid (refnext18_no (HO5.out.fr FK) s.now s.goal hno)
    clear FK hc hno
    go_wp2_with fail
    refine HRf.out.mono ?_
    rintro r w6 ⟨rfl, F6⟩
    have HO6 := Lib.hid (HO5.out.fr (((Fr.refl [] w5).alloc (.cells #[.int .i64 0, .int .i64 0] 31)).trans F6))
    go_wp2_with fail
    have FK6 := ((Fr.refl [] w5).alloc (.cells #[.int .i64 0, .int .i64 0] 31)).trans F6
    obtain ⟨w7, hw7⟩ : ∃ w7, w7 = (w6.alloc (.cells #[.int .u64 (max s.now s.goal : Nat), .slice va s.l.length vc, .int .u64 s.goal] 61)).alloc (.cells #[.int .i64 0, .int .i64 0] 31) := ⟨_, rfl⟩
    have F7 : Fr [] w6 w7 := hw7 ▸ (((Fr.refl [] _).alloc _).alloc _)
    have HY7 : w7.heap[w6.heap.size]? = some (.cells #[.int .u64 (max s.now s.goal : Nat), .slice va s.l.length vc, .int .u64 s.goal] 61) := hw7 ▸ (((Fr.refl [] _).alloc _).keep (block_alloc_new w6 _) (by simp))
    have HM7 : w7.heap[w6.heap.size + 1]? = some (.cells #[.int .i64 0, .int .i64 0] 31) := by
      have := block_alloc_new (w6.alloc (.cells #[.int .u64 (max s.now s.goal : Nat), .slice va s.l.length vc, .int .u64 s.goal] 61)) (.cells #[.int .i64 0, .int .i64 0] 31)
      rw [← hw7] at this
      simpa using this
    obtain ⟨y0, y1, y2⟩ := three_cells HY7
    obtain ⟨m0, m1⟩ := two_cells' HM7
    obtain ⟨q0, q1⟩ := two_cells' (F7.keep (F6.keep HK6.out (by simp)) (by simp))
    have HZ7 := Lib.hid (F7.keep (F6.keep HB6.out.2.2 (by simp)) (by simp))
    have HFs := Lib.hid (And.intro FK6 F7)
    have hs7 := F7.size
    clear F6 F7 FK6 HY7 HM7
    rw [← hw7]
    clear hw7
    obtain ⟨z0, z1, z2⟩ := three_cells HZ7.out
    have hzf := free_of_block HZ7.out
    go_wp2_with fail
    go_region
    all_goals (
      go_wp2_with fail
      obtain ⟨s0, s1, s2⟩ := three_cells (set3 HZ7.out (.int .u64 (max s.now s.goal : Nat)) (.slice va s.l.length vc) (.int .u64 s.goal))
      refine bodyPost_ret (v := .tuple #[.agg #[.int .u64 (max s.now s.goal : Nat), .slice va s.l.length vc, .int .u64 s.goal], .bool true]) (by simp [results, Try.results31, go_sem, s0, s1, s2]) rfl ⟨_, by rw [HDo.out, HNe.out], by rw [HDo.out]; exact did_mk H.out HF3.out HK5.out (by omega) HO6.out (by rw [HNe.out]) (fun g hg => .inl hg) HFs.out.1 HFs.out.2.drew hz3 (set3_fr w7.drew ..)⟩)
end Go.Proofs.Ytibnhfnidgfenaa
