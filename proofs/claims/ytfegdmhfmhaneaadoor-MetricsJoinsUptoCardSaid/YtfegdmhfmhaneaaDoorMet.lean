/-
  Numbers in figures: FormatUint at base ten, metrics.Num, and the document's Num and whole.
-/
import Derived.Test.YtfegdmhfmhaneaaDoorShelf
import Derived.Test.YtfegdmhfmhaneaaDoorBase
namespace Go.Proofs.YtfegdmhfmhaneaaDoor
open Go.RowKit Go.Lib Go.Sort

/-- The table of powers of ten is as the program's text lays it. -/
def Tab (w : World) : Prop := Lib.TabIs Tryd.prog w "internal/strconv.uint64pow10" .u64 Lib.pow10Tab
theorem Tab.fr {w w' : World} (h : Tab w) (F : Fr [] w w') : Tab w' := by
  unfold Tab Lib.TabIs World.var? at *
  cases hg : Tryd.prog.globalNamed "internal/strconv.uint64pow10" with
  | none => simp [hg] at h
  | some g =>
    simp only [hg, Option.bind_some] at h ⊢
    have hlt : g < w.heap.size := by
      rcases Nat.lt_or_ge g w.heap.size with h' | h'
      · exact h'
      · rw [Array.getElem?_eq_none h'] at h; simp at h
    rw [F.block g hlt (by simp)]
    exact h
theorem fr_grow (w : World) (os : Array Obj) : Fr [] w (grow w os) := ⟨rfl, rfl, rfl, by simp [grow], fun k hk _ => by simp [grow, Array.getElem?_append, hk]⟩
def bs (l : List UInt8) : ByteArray := ⟨l.toArray⟩

set_option maxHeartbeats 6400000 in
set_option maxRecDepth 100000 in
theorem formatUint_in (u : Nat) (hu64 : u < 18446744073709551616) (w : World) (htab : Tab w) :
    Calls Tryd.prog 31 #[.int .u64 u, .int .i64 10] w fun e w' => e = .returned (.string (bs (Lib.decDigits u))) ∧ Fr [] w w' := by
  by_cases hs : u < 100
  · have hc : IntKind.i64.wrap (u : Int) = (u : Int) := by rw [IntKind.wrap_i64]; omega
    have hlt : (u : Int) < 100 := by omega
    go_enter Tryd.func31, Tryd.ntmps31
    go_wp2_with fail
    refine (Tryd.internal_strconv_small u hs _).mono ?_
    rintro e w' ⟨rfl, hw⟩
    subst hw
    go_wp2_with fail
    go_ret
    exact ⟨rfl, Fr.refl _ _⟩
  · have hu1 : 1 ≤ u := by omega
    have hnd20 : Lib.nDigits u ≤ 20 := by have := Lib.numDigits_eq u hu1 hu64; split at this <;> omega
    have hal : Tryd.prog.arrayLen 70 = 24 := by kernel_rfl
    have hsl : ∀ W, (Instr.sliceAt 70 (.pointer (some ⟨w.heap.size, 0, none⟩)) none (some (.int .i64 (Lib.nDigits u : Int))) none).run Tryd.prog W = .ok (.slice (some ⟨w.heap.size, 0, none⟩) (Lib.nDigits u) 24) W := fun W => by
      rw [run_sliceAt_array_h W 70 ⟨w.heap.size, 0, none⟩ (by simp [Program.arrayLen, Program.elem, Tryd.underlying70]) .i64 (Lib.nDigits u : Int) (by omega) (by rw [hal]; omega)]
      go_simp
    have hH0 : Holds (fun (b : UInt8) => Value.int .u8 (b.toNat : Int)) (w.alloc (.cells Lib.zeros24 70)) w.heap.size 0 (Array.replicate (Lib.nDigits u) (0 : UInt8)) := fun j hj => by
      have hj' : j < Lib.nDigits u := by simpa using hj
      refine ⟨?_, World.frozen?_alloc_new _ _ _ _⟩
      rw [World.cell?_alloc_new, Lib.zeros24_at _ (by omega), getElem!_pos _ j hj]
      simp
    have hfmt := Tryd.internal_strconv_formatBase10 w.heap.size 0 24 u (Array.replicate (Lib.nDigits u) 0) (w.alloc (.cells Lib.zeros24 70)) hH0 (by rw [Array.size_replicate]; exact Lib.lt_pow_nDigits u) hu64 (by rw [Array.size_replicate]; omega)
    rw [Array.size_replicate] at hfmt
    have HH0 := Lib.hid hH0
    have HT := Lib.hid (Lib.tabIs_alloc htab (.cells Lib.zeros24 70))
    have hs1 : (100 : Int) ≤ (u : Int) := by omega
    have hs2 : decide (u < 100) = false := decide_eq_false hs
    clear hH0 hal htab
    go_enter Tryd.func31, Tryd.ntmps31
    go_wp2_with fail
    refine (Tryd.internal_strconv_numDigits u hu1 hu64 _ HT.out).mono ?_
    rintro e w' ⟨rfl, hw⟩
    subst hw
    go_wp2_with fail
    refine hfmt.mono ?_
    rintro e w' ⟨rfl, k, v', dk, rfl, hF⟩
    have hcv : (convert 56 9 (.slice (some ⟨w.heap.size, 0, none⟩) (Lib.nDigits u) 24)).run Tryd.prog ((putRow (fun (b : UInt8) => Value.int .u8 (b.toNat : Int)) (w.alloc (.cells Lib.zeros24 70)) w.heap.size 0 dk).drewN k) = .ok (.string ⟨(Lib.decDigits u).toArray⟩) ((putRow (fun (b : UInt8) => Value.int .u8 (b.toNat : Int)) (w.alloc (.cells Lib.zeros24 70)) w.heap.size 0 dk).drewN k) := by
      have h := run_convert_bytes_back (P := Tryd.prog) ((putRow (fun (b : UInt8) => Value.int .u8 (b.toNat : Int)) (w.alloc (.cells Lib.zeros24 70)) w.heap.size 0 dk).drewN k) 56 9 5 ⟨w.heap.size, 0, none⟩ 24 (Lib.decDigits u) Tryd.underlying56 Tryd.underlying5 Tryd.underlying9 (fun j hj => by
        rw [Lib.row_is_numeral hF j hj, Lib.add_plain, World.cell?_drewN]
        exact cell?_putRow (fun (b : UInt8) => Value.int .u8 (b.toNat : Int)) _ w.heap.size 0 _ dk HH0.out (by rw [hF.size, Array.size_replicate]) j (by rw [hF.size]; rw [Lib.decDigits_length] at hj; exact hj))
      rw [Lib.decDigits_length] at h
      exact h
    go_wp2_with fail
    go_ret
    refine ⟨rfl, ?_⟩
    rw [alloc_eq_grow]
    obtain ⟨os', _, e⟩ := putRow_grow_new (fun (b : UInt8) => Value.int .u8 (b.toNat : Int)) w #[(.cells Lib.zeros24 70)] w.heap.size 0 dk (Nat.le_refl _)
    rw [e]
    exact (fr_grow w os').drewN k
theorem formatUint (u : Nat) (hu : u < 18446744073709551616) (w : World) (h : Tab w) :
    Calls Tryd.prog 24 #[.int .u64 u, .int .i64 10] w fun e w' => e = .returned (.string (bs (Lib.decDigits u))) ∧ Fr [] w w' := by
  have H := Lib.hid (formatUint_in u hu w h)
  go_enter Tryd.func24, Tryd.ntmps24
  go_wp2_with fail
  refine H.out.mono ?_
  rintro e w' ⟨rfl, F⟩
  go_wp2_with fail
  go_ret
  exact ⟨rfl, F⟩
theorem num_spec (u : Nat) (hu : u < 18446744073709551616) (w : World) (h : Tab w) :
    Calls Tryd.prog 13 #[.int .u64 u] w fun e w' => e = .returned (.string (bs (Lib.decDigits u))) ∧ Fr [] w w' := by
  have H := Lib.hid (formatUint u hu w h)
  go_enter Tryd.func13, Tryd.ntmps13
  go_wp2_with fail
  refine H.out.mono ?_
  rintro e w' ⟨rfl, F⟩
  go_wp2_with fail
  go_ret
  exact ⟨rfl, F⟩
theorem itoa_spec (n : Int) (hn : I64 n) (w : World) (h : Tab w) :
    Calls Tryd.prog 21 #[.int .i64 n] w fun e w' => e = .returned (.string (bs (Lib.itoa n))) ∧ Fr [] w w' := by
  refine (Tryd.strconv_Itoa n hn.1 hn.2 w h).mono ?_
  rintro e w' ⟨rfl, k, os, rfl⟩
  exact ⟨rfl, (Fr.of_drewN w k).trans (fr_grow _ os)⟩

theorem dec_lt {u : Nat} (h : u < 10) : Lib.decDigits u = [UInt8.ofNat (48 + u)] := by rw [Lib.decDigits, dif_pos h]
theorem dec_ge {u : Nat} (h : ¬ u < 10) : Lib.decDigits u = Lib.decDigits (u / 10) ++ [UInt8.ofNat (48 + u % 10)] := by rw [Lib.decDigits, dif_neg h]
theorem bs_size (l : List UInt8) : (bs l).size = l.length := by simp [bs, ByteArray.size]
theorem bs_append (a b : List UInt8) : bs a ++ bs b = bs (a ++ b) := by
  apply ByteArray.ext
  simp [bs]
theorem dec_len (u : Nat) (hu : u < 18446744073709551616) : 1 ≤ (Lib.decDigits u).length ∧ (Lib.decDigits u).length ≤ 20 := by
  rw [Lib.decDigits_length]
  by_cases h : u = 0
  · subst h
    rw [Lib.nDigits, dif_pos (by omega)]
    omega
  · have := Lib.numDigits_eq u (by omega) hu
    have h1 : 1 ≤ Lib.nDigits u := by rw [Lib.nDigits]; split <;> omega
    exact ⟨h1, by split at this <;> omega⟩
theorem conv_one (c : Nat) (hc : c < 256) (W : World) (g : Nat) (h : W.cell? ⟨g, 0, none⟩ = some (.int .u8 c)) : (convert 56 9 (.slice (some ⟨g, 0, none⟩) 1 1)).run Tryd.prog W = .ok (.string (bs [UInt8.ofNat c])) W := by
  have := run_convert_bytes_back (P := Tryd.prog) W 56 9 5 ⟨g, 0, none⟩ 1 [UInt8.ofNat c] Tryd.underlying56 Tryd.underlying5 Tryd.underlying9 (fun j hj => by
    have : j = 0 := by simpa using hj
    subst this
    rw [Lib.add_plain]
    simp only [List.getElem_cons_zero, Nat.add_zero]
    rw [h]
    congr 2
    rw [UInt8.toNat_ofNat']
    omega)
  exact this
set_option maxHeartbeats 1000000 in
theorem refnum_spec (u : Nat) : ∀ w : World, u < 18446744073709551616 →
    Calls Tryd.prog 14 #[.int .u64 u] w fun e w' => e = .returned (.string (bs (Lib.decDigits u))) ∧ Fr [] w w' := by
  induction u using Nat.strongRecOn with
  | _ u ih =>
    intro w hu
    by_cases h : u < 10
    · have HE := Lib.hid (dec_lt h)
      have hlt : decide (u < 10) = true := decide_eq_true h
      obtain ⟨c, hc⟩ : ∃ c, c = 48 + u := ⟨_, rfl⟩
      have hw1 : IntKind.u64.wrap (48 + (u : Int)) = (c : Int) := by rw [IntKind.wrap_u64]; omega
      have hw2 : IntKind.u8.wrap (c : Int) = (c : Int) := by rw [IntKind.wrap_u8]; omega
      have hcv := conv_one c (by omega) (w.alloc (.cells #[.int .u8 c] 5)) w.heap.size (World.cell?_alloc_new _ _ _ 0)
      rw [← hc] at HE
      clear hc
      go_enter Tryd.func14, Tryd.ntmps14
      go_wp2_with fail
      go_ret
      exact ⟨by rw [HE.out]; rfl, (Fr.refl _ _).alloc _⟩
    · have HE := Lib.hid (dec_ge h)
      obtain ⟨q, hq⟩ : ∃ q, q = u / 10 := ⟨_, rfl⟩
      have HI := Lib.hid (fun w => ih q (by omega) w (by omega))
      rw [← hq] at HE
      have hw3 : IntKind.u64.wrap ((u : Int) / 10) = (q : Int) := by rw [IntKind.wrap_u64]; omega
      have hlt : decide (u < 10) = false := decide_eq_false h
      obtain ⟨c, hc⟩ : ∃ c, c = 48 + u % 10 := ⟨_, rfl⟩
      have hc2 : c < 256 := by omega
      have hw1 : IntKind.u64.wrap (48 + (u : Int) % 10) = (c : Int) := by rw [IntKind.wrap_u64]; omega
      have hw4 : IntKind.u64.wrap (48 + (u : Int).tmod 10) = (c : Int) := by rw [Int.tmod_eq_emod_of_nonneg (by omega)]; exact hw1
      have hw2 : IntKind.u8.wrap (c : Int) = (c : Int) := by rw [IntKind.wrap_u8]; omega
      have hcv := conv_one c hc2
      rw [← hc] at HE
      have hsz : ¬ 9223372036854775807 < (bs (Lib.decDigits q)).size + (bs [UInt8.ofNat c]).size := by
        have := (dec_len q (by omega)).2
        rw [bs_size, bs_size]
        simp only [List.length_cons, List.length_nil]
        omega
      have hsz2 : Hid (bs (Lib.decDigits q) ++ bs [UInt8.ofNat c] = bs (Lib.decDigits u)) := Lib.hid (by rw [bs_append, HE.out])
      clear ih hc hq
      go_enter Tryd.func14, Tryd.ntmps14
      go_wp2_with fail
      go_region_with (first
        | (go_at_call 14; (with_reducible refine (HI.out (w.alloc (.cells #[.int .u8 c] 5)).drew).mono ?_); rintro e w1 ⟨rfl, F⟩; have hcw := hcv w1 w.heap.size ((F.cell (p := ⟨w.heap.size, 0, none⟩) (by simp) (by simp)).trans (by simp)))
        | (go_at_call 14; refine (HI.out _).mono ?_; rintro e w1 ⟨rfl, F⟩))
      all_goals (
        go_wp2_with fail
        go_ret
        exact ⟨by rw [← hsz2.out]; rfl, by first | exact (Fr.refl _ _).drew.trans (F.trans ((Fr.refl _ _).alloc _)) | exact ((Fr.refl _ _).drew.alloc _).trans F | exact ((Fr.refl _ _).alloc _).drew.trans F⟩)
end Go.Proofs.YtfegdmhfmhaneaaDoor
