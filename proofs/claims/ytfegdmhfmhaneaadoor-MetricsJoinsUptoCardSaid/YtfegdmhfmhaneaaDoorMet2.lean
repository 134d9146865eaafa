/-
  A number that may be below 0; how a dependency stands, as a line: the document's.
-/
import Derived.Test.YtfegdmhfmhaneaaDoorMet
import Derived.Deep.RegionHeld3
namespace Go.Proofs.YtfegdmhfmhaneaaDoor
open Go.RowKit Go.Lib Go.Sort

theorem itoa_len (n : Int) (h : I64 n) : (Lib.itoa n).length ≤ 21 := by
  unfold Lib.itoa
  unfold I64 at h
  split
  · have := (dec_len n.natAbs (by omega)).2
    simp only [List.length_cons]
    omega
  · have := (dec_len n.toNat (by omega)).2
    omega
set_option maxHeartbeats 1000000 in
theorem whole_spec (n : Int) (h : I64 n) (w : World) :
    Calls Tryd.prog 23 #[.int .i64 n] w fun e w' => e = .returned (.string (bs (Lib.itoa n))) ∧ Fr [] w w' := by
  unfold I64 at h
  by_cases h0 : n < 0
  · have hu : n.natAbs < 18446744073709551616 := by omega
    have HE : Hid (Lib.itoa n = 45 :: Lib.decDigits n.natAbs) := Lib.hid (by unfold Lib.itoa; rw [if_pos h0])
    have hsz := (dec_len n.natAbs hu).2
    obtain ⟨m, hm⟩ : ∃ m, m = n.natAbs := ⟨_, rfl⟩
    rw [← hm] at hu HE hsz
    have HN := Lib.hid (fun w => refnum_spec m w hu)
    have hw1 : IntKind.i64.wrap (n + 1) = n + 1 := by rw [IntKind.wrap_i64]; omega
    have hw2 : IntKind.i64.wrap (-(n + 1)) = -(n + 1) := by rw [IntKind.wrap_i64]; omega
    have hw3 : IntKind.u64.wrap (-(n + 1)) = -(n + 1) := by rw [IntKind.wrap_u64]; omega
    have hw4 : IntKind.u64.wrap (-(n + 1) + 1) = (m : Int) := by rw [IntKind.wrap_u64]; omega
    have hsz2 : ¬ 9223372036854775807 < (⟨#[45]⟩ : ByteArray).size + (bs (Lib.decDigits m)).size := by rw [bs_size]; simp [ByteArray.size]; omega
    have HC : Hid ((⟨#[45]⟩ : ByteArray) ++ bs (Lib.decDigits m) = bs (Lib.itoa n)) := Lib.hid (by rw [HE.out, show (⟨#[45]⟩ : ByteArray) = bs [45] from rfl, bs_append]; rfl)
    clear hm hsz
    go_enter Tryd.func23, Tryd.ntmps23
    go_wp2_with fail
    refine (HN.out _).mono ?_
    rintro e w' ⟨rfl, F⟩
    go_wp2_with fail
    go_ret
    exact ⟨by rw [← HC.out]; rfl, F⟩
  · obtain ⟨m, rfl⟩ := Int.eq_ofNat_of_zero_le (show 0 ≤ n by omega)
    have hu : m < 18446744073709551616 := by omega
    have HE : Hid (Lib.itoa (m : Int) = Lib.decDigits m) := Lib.hid (by unfold Lib.itoa; rw [if_neg h0]; rfl)
    have HN := Lib.hid (fun w => refnum_spec m w hu)
    have hw3 : IntKind.u64.wrap (m : Int) = (m : Int) := by rw [IntKind.wrap_u64]; omega
    go_enter Tryd.func23, Tryd.ntmps23
    go_wp2_with fail
    refine (HN.out _).mono ?_
    rintro e w' ⟨rfl, F⟩
    go_wp2_with fail
    go_ret
    exact ⟨by rw [HE.out]; rfl, F⟩
/-- How a dependency stands. -/
structure Sn where
  (b w f c br : Int)
  (k0 k1 k2 k3 k4 ha al : Nat)
def Sn.ok (s : Sn) : Prop := I64 s.b ∧ I64 s.w ∧ I64 s.f ∧ I64 s.c ∧ I64 s.br ∧ s.k0 < 18446744073709551616 ∧ s.k1 < 18446744073709551616 ∧ s.k2 < 18446744073709551616 ∧ s.k3 < 18446744073709551616 ∧ s.k4 < 18446744073709551616 ∧ s.ha < 18446744073709551616 ∧ s.al < 18446744073709551616
abbrev Sn.vals (s : Sn) : Array Value := #[.int .i64 s.b, .int .i64 s.w, .int .i64 s.f, .int .i64 s.c, .int .i64 s.br, .int .u64 s.k0, .int .u64 s.k1, .int .u64 s.k2, .int .u64 s.k3, .int .u64 s.k4, .int .u64 s.ha, .int .u64 s.al]
/-- The line. -/
def Sn.words (s : Sn) : List (List UInt8) := [Lib.itoa s.b, Lib.itoa s.w, Lib.itoa s.f, Lib.itoa s.c, Lib.itoa s.br, Lib.decDigits s.k0, Lib.decDigits s.k1, Lib.decDigits s.k2, Lib.decDigits s.k3, Lib.decDigits s.k4, Lib.decDigits s.ha, Lib.decDigits s.al]
def Sn.line (s : Sn) : List UInt8 := Lib.join s.words [32]
set_option maxHeartbeats 4000000 in
set_option maxRecDepth 20000 in
theorem refline_spec (s : Sn) (hs : s.ok) (w : World) :
    Calls Tryd.prog 12 #[.agg s.vals] w fun e w' => e = .returned (.string (bs s.line)) ∧ Fr [] w w' := by
  obtain ⟨b, bw, f, c, br, k0, k1, k2, k3, k4, ha, al⟩ := s
  obtain ⟨h0, h1, h2, h3, h4, h5, h6, h7, h8, h9, h10, h11⟩ := hs
  simp only at h0 h1 h2 h3 h4 h5 h6 h7 h8 h9 h10 h11
  have HB := Lib.hid (block_alloc_new w (.cells #[.int .i64 b, .int .i64 bw, .int .i64 f, .int .i64 c, .int .i64 br, .int .u64 k0, .int .u64 k1, .int .u64 k2, .int .u64 k3, .int .u64 k4, .int .u64 ha, .int .u64 al] 25))
  have HF0 := Lib.hid ((Fr.refl [] w).alloc (.cells #[.int .i64 b, .int .i64 bw, .int .i64 f, .int .i64 c, .int .i64 br, .int .u64 k0, .int .u64 k1, .int .u64 k2, .int .u64 k3, .int .u64 k4, .int .u64 ha, .int .u64 al] 25))
  have KS := Lib.hid (fun (w' : World) (F : Fr [] (w.alloc (.cells #[.int .i64 b, .int .i64 bw, .int .i64 f, .int .i64 c, .int .i64 br, .int .u64 k0, .int .u64 k1, .int .u64 k2, .int .u64 k3, .int .u64 k4, .int .u64 ha, .int .u64 al] 25)) w') => (by
    have hb := F.keep HB.out (by simp)
    refine ⟨?_, ?_, ?_, ?_, ?_⟩ <;> (rw [cell_of_block hb]; rfl) : w'.cell? ⟨w.heap.size, 0, none⟩ = some (.int .i64 b) ∧ w'.cell? ⟨w.heap.size, 1, none⟩ = some (.int .i64 bw) ∧ w'.cell? ⟨w.heap.size, 2, none⟩ = some (.int .i64 f) ∧ w'.cell? ⟨w.heap.size, 3, none⟩ = some (.int .i64 c) ∧ w'.cell? ⟨w.heap.size, 4, none⟩ = some (.int .i64 br)))
  have W0 := Lib.hid (fun w => whole_spec b h0 w)
  have W1 := Lib.hid (fun w => whole_spec bw h1 w)
  have W2 := Lib.hid (fun w => whole_spec f h2 w)
  have W3 := Lib.hid (fun w => whole_spec c h3 w)
  have W4 := Lib.hid (fun w => whole_spec br h4 w)
  obtain ⟨i0, e0⟩ : ∃ i, i = Lib.itoa b := ⟨_, rfl⟩
  obtain ⟨i1, e1⟩ : ∃ i, i = Lib.itoa bw := ⟨_, rfl⟩
  obtain ⟨i2, e2⟩ : ∃ i, i = Lib.itoa f := ⟨_, rfl⟩
  obtain ⟨i3, e3⟩ : ∃ i, i = Lib.itoa c := ⟨_, rfl⟩
  obtain ⟨i4, e4⟩ : ∃ i, i = Lib.itoa br := ⟨_, rfl⟩
  have l0 : (bs i0).size ≤ 21 := by rw [bs_size, e0]; exact itoa_len b h0
  have l1 : (bs i1).size ≤ 21 := by rw [bs_size, e1]; exact itoa_len bw h1
  have l2 : (bs i2).size ≤ 21 := by rw [bs_size, e2]; exact itoa_len f h2
  have l3 : (bs i3).size ≤ 21 := by rw [bs_size, e3]; exact itoa_len c h3
  have l4 : (bs i4).size ≤ 21 := by rw [bs_size, e4]; exact itoa_len br h4
  rw [← e0] at W0
  rw [← e1] at W1
  rw [← e2] at W2
  rw [← e3] at W3
  rw [← e4] at W4
  have HE := Lib.hid (And.intro e0 (And.intro e1 (And.intro e2 (And.intro e3 e4))))
  have HS := Lib.hid (And.intro h5 (And.intro h6 (And.intro h7 (And.intro h8 (And.intro h9 (And.intro h10 h11))))))
  clear e0 e1 e2 e3 e4 h0 h1 h2 h3 h4 h5 h6 h7 h8 h9 h10 h11
  have t1 : ¬ 9223372036854775807 < (bs i0).size + 1 := by omega
  have t2 : ¬ 9223372036854775807 < (bs i0).size + 1 + (bs i1).size := by omega
  have t3 : ¬ 9223372036854775807 < (bs i0).size + 1 + (bs i1).size + 1 := by omega
  have t4 : ¬ 9223372036854775807 < (bs i0).size + 1 + (bs i1).size + 1 + (bs i2).size := by omega
  have t5 : ¬ 9223372036854775807 < (bs i0).size + 1 + (bs i1).size + 1 + (bs i2).size + 1 := by omega
  have t6 : ¬ 9223372036854775807 < (bs i0).size + 1 + (bs i1).size + 1 + (bs i2).size + 1 + (bs i3).size := by omega
  have t7 : ¬ 9223372036854775807 < (bs i0).size + 1 + (bs i1).size + 1 + (bs i2).size + 1 + (bs i3).size + 1 := by omega
  have t8 : ¬ 9223372036854775807 < (bs i0).size + 1 + (bs i1).size + 1 + (bs i2).size + 1 + (bs i3).size + 1 + (bs i4).size := by omega
  obtain ⟨W, hW⟩ : ∃ W, W = w.alloc (.cells #[.int .i64 b, .int .i64 bw, .int .i64 f, .int .i64 c, .int .i64 br, .int .u64 k0, .int .u64 k1, .int .u64 k2, .int .u64 k3, .int .u64 k4, .int .u64 ha, .int .u64 al] 25) := ⟨_, rfl⟩
  rw [← hW] at HB HF0 KS
  have HW := Lib.hid hW
  clear hW
  go_enter Tryd.func12, Tryd.ntmps12
  go_wp2_with fail
  rw [← HW.out]
  have FX := Fr.refl [] W
  go_region_held3 (fun w' => w'.cell? ⟨w.heap.size, 0, none⟩ = some (.int .i64 b) ∧ w'.cell? ⟨w.heap.size, 1, none⟩ = some (.int .i64 bw) ∧ w'.cell? ⟨w.heap.size, 2, none⟩ = some (.int .i64 f) ∧ w'.cell? ⟨w.heap.size, 3, none⟩ = some (.int .i64 c) ∧ w'.cell? ⟨w.heap.size, 4, none⟩ = some (.int .i64 br))
    (exact KS.out _ (by repeat (first | exact FX | exact Fr.refl _ _ | apply Fr.drew | apply Fr.drewN | apply Fr.alloc)))
    (first
      | (go_at_call_of 23 (Value.int .i64 b); refine (W0.out _).mono ?_; rintro e wA ⟨rfl, F⟩; have FX : Fr [] W wA := Fr.trans (by repeat (first | exact FX | exact Fr.refl _ _ | apply Fr.drew | apply Fr.drewN | apply Fr.alloc)) F; clear F)
      | (go_at_call_of 23 (Value.int .i64 bw); refine (W1.out _).mono ?_; rintro e wA ⟨rfl, F⟩; have FX : Fr [] W wA := Fr.trans (by repeat (first | exact FX | exact Fr.refl _ _ | apply Fr.drew | apply Fr.drewN | apply Fr.alloc)) F; clear F)
      | (go_at_call_of 23 (Value.int .i64 f); refine (W2.out _).mono ?_; rintro e wA ⟨rfl, F⟩; have FX : Fr [] W wA := Fr.trans (by repeat (first | exact FX | exact Fr.refl _ _ | apply Fr.drew | apply Fr.drewN | apply Fr.alloc)) F; clear F)
      | (go_at_call_of 23 (Value.int .i64 c); refine (W3.out _).mono ?_; rintro e wA ⟨rfl, F⟩; have FX : Fr [] W wA := Fr.trans (by repeat (first | exact FX | exact Fr.refl _ _ | apply Fr.drew | apply Fr.drewN | apply Fr.alloc)) F; clear F)
      | (go_at_call_of 23 (Value.int .i64 br); refine (W4.out _).mono ?_; rintro e wA ⟨rfl, F⟩; have FX : Fr [] W wA := Fr.trans (by repeat (first | exact FX | exact Fr.refl _ _ | apply Fr.drew | apply Fr.drewN | apply Fr.alloc)) F; clear F))
  have HF1 := Lib.hid (HF0.out.trans FX)
  have HBl := Lib.hid (fun (w' : World) (F : Fr [] W w') => F.keep HB.out (by simp))
  obtain ⟨acc, hacc⟩ : ∃ a, a = bs i0 ++ ⟨#[32]⟩ ++ bs i1 ++ ⟨#[32]⟩ ++ bs i2 ++ ⟨#[32]⟩ ++ bs i3 ++ ⟨#[32]⟩ ++ bs i4 := ⟨_, rfl⟩
  have hla : acc.size ≤ 109 := by
    rw [hacc]
    simp only [ByteArray.size_append]
    have : (⟨#[32]⟩ : ByteArray).size = 1 := rfl
    omega
  have HA0 := Lib.hid hacc
  have HFX := Lib.hid FX
  clear t1 t2 t3 t4 t5 t6 t7 t8 l0 l1 l2 l3 l4 W0 W1 W2 W3 W4 KS FX
  rw [← hacc]
  clear hacc
  have HAL : Hid (acc = bs (Lib.join [i0, i1, i2, i3, i4] [32])) := Lib.hid (by
    rw [HA0.out, show (⟨#[32]⟩ : ByteArray) = bs [32] from rfl]
    simp only [bs_append]
    simp [Lib.join, List.intercalate, List.intersperse])
  clear HA0
  go_wp2_with fail
  go_loopw [3, 4] (fun sv kv wr => ∃ (k : Nat) (a : ByteArray), k ≤ 5 ∧ kv = .int .i64 k ∧ sv = .string a ∧ a.size ≤ 109 + 21 * k ∧ Hid (a = acc ++ bs ((List.range k).flatMap fun j => 32 :: Lib.decDigits ([k0, k1, k2, k3, k4].getD j 0))) ∧ Hid (Fr [] W wr)) (fun _ kv _ => 5 - (Go.RowKit.intOf kv).toNat)
  case atStart => exact ⟨0, acc, by omega, by go_num, rfl, by omega, Lib.hid (by apply ByteArray.ext; simp [bs]), HFX⟩
  case round =>
    clear HFX hla
    obtain ⟨k, a, hk, rfl, rfl, hal, HA, HF⟩ := hrel
    by_cases hlt : k < 5
    · obtain ⟨n, hn⟩ : ∃ n, n = [k0, k1, k2, k3, k4].getD k 0 := ⟨_, rfl⟩
      have hcell : wr.cell? ⟨w.heap.size, 5 + k, none⟩ = some (.int .u64 n) := by
        rw [cell_of_block (HBl.out wr HF.out), hn]
        match k, hlt with
        | 0, _ => rfl
        | 1, _ => rfl
        | 2, _ => rfl
        | 3, _ => rfl
        | 4, _ => rfl
      have hn64 : n < 18446744073709551616 := by
        have hS := HS.out
        rw [hn]
        match k, hlt with
        | 0, _ => exact hS.1
        | 1, _ => exact hS.2.1
        | 2, _ => exact hS.2.2.1
        | 3, _ => exact hS.2.2.2.1
        | 4, _ => exact hS.2.2.2.2.1
      have HN := Lib.hid (fun w => refnum_spec n w hn64)
      have hln := (dec_len n hn64).2
      have hl2 : (bs (Lib.decDigits n)).size ≤ 20 := by rw [bs_size]; exact hln
      have HA2 : Hid (a ++ ⟨#[32]⟩ ++ bs (Lib.decDigits n) = acc ++ bs ((List.range (k + 1)).flatMap fun j => 32 :: Lib.decDigits ([k0, k1, k2, k3, k4].getD j 0))) := Lib.hid (by
        rw [HA.out, List.range_succ, List.flatMap_append, show (⟨#[32]⟩ : ByteArray) = bs [32] from rfl, ByteArray.append_assoc, ByteArray.append_assoc, bs_append, bs_append, hn]
        simp [List.flatMap_cons])
      have q1 : ¬ 9223372036854775807 < a.size + 1 := by omega
      have q2 : ¬ 9223372036854775807 < a.size + 1 + (bs (Lib.decDigits n)).size := by omega
      have hl3 : (a ++ ⟨#[32]⟩ ++ bs (Lib.decDigits n)).size ≤ 109 + 21 * (k + 1) := by
        simp only [ByteArray.size_append]
        have : (⟨#[32]⟩ : ByteArray).size = 1 := rfl
        omega
      have b0 : (0 : Int) ≤ (k : Int) := by omega
      have b1 : (k : Int) < 5 := by omega
      clear hn hln HA
      go_wp2_with fail
      refine (HN.out _).mono ?_
      rintro e w2 ⟨rfl, F⟩
      have HF2 := Lib.hid (HF.out.trans F)
      clear F hcell
      go_wp2_with fail
      go_roundw
      case rel => exact ⟨k + 1, _, by omega, by go_num, rfl, hl3, HA2, HF2⟩
      case measure => simp [Go.RowKit.intOf]; omega
    · obtain rfl : k = 5 := by omega
      have hha := HS.out.2.2.2.2.2.1
      have hal2 := HS.out.2.2.2.2.2.2
      have W0 := Lib.hid (fun w => refnum_spec ha w hha)
      have W1 := Lib.hid (fun w => refnum_spec al w hal2)
      have l0 : (bs (Lib.decDigits ha)).size ≤ 20 := by rw [bs_size]; exact (dec_len ha hha).2
      have l1 : (bs (Lib.decDigits al)).size ≤ 20 := by rw [bs_size]; exact (dec_len al hal2).2
      have t1 : ¬ 9223372036854775807 < a.size + 1 := by omega
      have t2 : ¬ 9223372036854775807 < a.size + 1 + (bs (Lib.decDigits ha)).size := by omega
      have t3 : ¬ 9223372036854775807 < a.size + 1 + (bs (Lib.decDigits ha)).size + 1 := by omega
      have t4 : ¬ 9223372036854775807 < a.size + 1 + (bs (Lib.decDigits ha)).size + 1 + (bs (Lib.decDigits al)).size := by omega
      have HFin : Hid (a ++ ⟨#[32]⟩ ++ bs (Lib.decDigits ha) ++ ⟨#[32]⟩ ++ bs (Lib.decDigits al) = bs (Sn.line ⟨b, bw, f, c, br, k0, k1, k2, k3, k4, ha, al⟩)) := Lib.hid (by
        obtain ⟨e0, e1, e2, e3, e4⟩ := HE.out
        rw [HA.out, HAL.out, show (⟨#[32]⟩ : ByteArray) = bs [32] from rfl]
        simp only [bs_append]
        congr 1
        unfold Sn.line Sn.words
        rw [← e0, ← e1, ← e2, ← e3, ← e4]
        simp [Lib.join, List.intercalate, List.intersperse, List.range_succ])
      have KS := Lib.hid (fun (w' : World) (F : Fr [] wr w') => (by
        have hb := HBl.out w' (HF.out.trans F)
        refine ⟨?_, ?_⟩ <;> (rw [cell_of_block hb]; rfl) : w'.cell? ⟨w.heap.size, 10, none⟩ = some (.int .u64 ha) ∧ w'.cell? ⟨w.heap.size, 11, none⟩ = some (.int .u64 al)))
      have FX := Fr.refl [] wr
      clear HA HAL HE hal hha hal2
      go_wp2_with fail
      go_region_held3 (fun w' => w'.cell? ⟨w.heap.size, 10, none⟩ = some (.int .u64 ha) ∧ w'.cell? ⟨w.heap.size, 11, none⟩ = some (.int .u64 al))
        (exact KS.out _ (by repeat (first | exact FX | exact Fr.refl _ _ | apply Fr.drew | apply Fr.drewN | apply Fr.alloc)))
        (first
          | (go_at_call_of 14 (Value.int .u64 ha); refine (W0.out _).mono ?_; rintro e wA ⟨rfl, F⟩; have FX : Fr [] wr wA := Fr.trans (by repeat (first | exact FX | exact Fr.refl _ _ | apply Fr.drew | apply Fr.drewN | apply Fr.alloc)) F; clear F)
          | (go_at_call_of 14 (Value.int .u64 al); refine (W1.out _).mono ?_; rintro e wA ⟨rfl, F⟩; have FX : Fr [] wr wA := Fr.trans (by repeat (first | exact FX | exact Fr.refl _ _ | apply Fr.drew | apply Fr.drewN | apply Fr.alloc)) F; clear F))
      all_goals (
        have HFX := Lib.hid FX
        clear FX KS
        go_wp2_with fail
        go_ret
        exact ⟨by rw [← HFin.out]; rfl, HF0.out.trans (HF.out.trans HFX.out)⟩)
end Go.Proofs.YtfegdmhfmhaneaaDoor
