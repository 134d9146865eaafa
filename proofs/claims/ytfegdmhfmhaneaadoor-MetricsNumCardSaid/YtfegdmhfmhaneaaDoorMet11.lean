/-
  MetricsNum, as a contract of its function: figures tell a number.
-/
import Derived.Test.YtfegdmhfmhaneaaDoorMet8
namespace Go.Proofs.YtfegdmhfmhaneaaDoor
open Go.RowKit

def dval (l : List UInt8) : Nat := l.foldl (fun x c => 10 * x + (c.toNat - 48)) 0
theorem dval_snoc (l : List UInt8) (c : UInt8) : dval (l ++ [c]) = 10 * dval l + (c.toNat - 48) := by
  unfold dval; rw [List.foldl_append]; rfl
theorem ofNat_dig (u : Nat) (h : u < 10) : (UInt8.ofNat (48 + u)).toNat = 48 + u := by
  simp; omega
theorem dval_dec (u : Nat) : dval (Lib.decDigits u) = u := by
  induction u using Nat.strongRecOn with
  | _ u ih =>
    by_cases h : u < 10
    · rw [dec_lt h]
      show 10 * 0 + ((UInt8.ofNat (48 + u)).toNat - 48) = u
      rw [ofNat_dig u h]; omega
    · rw [dec_ge h, dval_snoc, ih _ (by omega), ofNat_dig _ (by omega)]; omega
theorem dig_dec (u : Nat) : ∀ c ∈ Lib.decDigits u, 48 ≤ c.toNat ∧ c.toNat ≤ 57 := by
  induction u using Nat.strongRecOn with
  | _ u ih =>
    by_cases h : u < 10
    · rw [dec_lt h]
      intro c hc
      simp only [List.mem_cons, List.not_mem_nil, or_false] at hc
      subst hc
      rw [ofNat_dig u h]; omega
    · rw [dec_ge h]
      intro c hc
      rcases List.mem_append.1 hc with hc | hc
      · exact ih _ (by omega) c hc
      · simp only [List.mem_cons, List.not_mem_nil, or_false] at hc
        subst hc
        rw [ofNat_dig _ (by omega)]; omega
theorem dval_pre (a b : List UInt8) : dval a ≤ dval (a ++ b) := by
  induction b generalizing a with
  | nil => simp
  | cons c b ih =>
    have := ih (a ++ [c])
    rw [List.append_assoc] at this
    rw [dval_snoc] at this
    simp only [List.cons_append, List.nil_append] at this
    omega
theorem dval_take (l : List UInt8) (i : Nat) : dval (l.take i) ≤ dval l := by
  have := dval_pre (l.take i) (l.drop i)
  rwa [List.take_append_drop] at this
theorem dec_mono (b : Nat) : ∀ a, a ≤ b → (Lib.decDigits a).length ≤ (Lib.decDigits b).length := by
  induction b using Nat.strongRecOn with
  | _ b ih =>
    intro a hab
    by_cases h : b < 10
    · rw [dec_lt h, dec_lt (by omega : a < 10)]; simp
    · rw [dec_ge h, List.length_append]
      by_cases h2 : a < 10
      · rw [dec_lt h2]; simp
      · rw [dec_ge h2, List.length_append]
        have := ih (b / 10) (by omega) (a / 10) (by omega)
        simp only [List.length_cons, List.length_nil]; omega
theorem dec_first (u : Nat) (h1 : 1 ≤ u) : ∃ c l, Lib.decDigits u = c :: l ∧ c.toNat ≠ 48 := by
  induction u using Nat.strongRecOn with
  | _ u ih =>
    by_cases h : u < 10
    · exact ⟨_, _, dec_lt h, by rw [ofNat_dig u h]; omega⟩
    · obtain ⟨c, l, h1, h2⟩ := ih (u / 10) (by omega) (by omega)
      exact ⟨c, l ++ [UInt8.ofNat (48 + u % 10)], by rw [dec_ge h, h1]; rfl, h2⟩
theorem dec_first2 (u : Nat) (h : 1 < (Lib.decDigits u).length) : ∃ c l, Lib.decDigits u = c :: l ∧ c.toNat ≠ 48 := by
  refine dec_first u ?_
  by_cases h0 : u = 0
  · subst h0; rw [dec_lt (by decide)] at h; simp at h
  · omega
theorem bs_get (l : List UInt8) (i : Nat) (h : i < l.length) : (bs l)[i]'(by rw [bs_size]; exact h) = l[i] := by
  show l.toArray[i] = l[i]
  simp

set_option maxHeartbeats 4000000 in
set_option maxRecDepth 20000 in
theorem metricsNum_spec (n : Nat) (hn : n < 18446744073709551616) (w : World) (ht : Tab w) :
    Calls Tryd.prog 5 #[.int .u64 n] w fun e w' => e = .returned (.bool true) ∧ Fr [] w w' := by
  have HA := Lib.hid (awake_spec w ht)
  have HN := Lib.hid (fun (w' : World) (F : Fr [] w w') => num_spec n hn w' (ht.fr F))
  have HM := Lib.hid (fun (w' : World) (F : Fr [] w w') => num_spec (n / 2) (by omega) w' (ht.fr F))
  rw [show (((n / 2 : Nat) : Int)) = (n : Int) / 2 from rfl] at HM
  clear ht
  have HL := Lib.hid (dec_len n hn)
  have HD := Lib.hid (dval_dec n)
  have HG := Lib.hid (dig_dec n)
  have HF := Lib.hid (dec_first2 n)
  have HS := Lib.hid (dec_mono n (n / 2) (by omega))
  have HL2 := Lib.hid (dec_len (n / 2) (by omega))
  revert HN HM HL HD HG HF HS HL2
  generalize Lib.decDigits n = l
  generalize Lib.decDigits (n / 2) = l2
  intro HN HM HL HD HG HF HS HL2
  have hs : (bs l).size = l.length := bs_size l
  have HZ := Lib.hid hs
  have HZ2 := Lib.hid (bs_size l2)
  have hsm : (bs l).size ≤ 20 := by rw [hs]; exact HL.out.2
  have hsm1 : 1 ≤ (bs l).size := by rw [hs]; exact HL.out.1
  clear hs
  go_enter Tryd.func5, Tryd.ntmps5
  go_wp2_with fail
  refine HA.out.mono ?_
  rintro e w2 ⟨rfl, F⟩
  have HF2 := Lib.hid F
  clear F HA
  go_wp2_with fail
  refine (HN.out _ HF2.out).mono ?_
  rintro e w3 ⟨rfl, F⟩
  have HF3 := Lib.hid (HF2.out.trans F)
  clear F HN HF2
  go_wp2_with fail
  go_loop [5, 6] (fun x i => ∃ k : Nat, k ≤ (bs l).size ∧ i = .int .i64 k ∧ x = .int .u64 (dval (l.take k))) (fun _ i => 30 - (intOf i).toNat)
  case atStart => exact ⟨0, Nat.zero_le _, rfl, rfl⟩
  case round =>
    obtain ⟨k, hk, rfl, rfl⟩ := hrel
    by_cases hlt : k < (bs l).size
    · have hlt2 : k < l.length := by rw [← HZ.out]; exact hlt
      have hgt := bs_get l k hlt2
      have hdg := HG.out l[k] (List.getElem_mem hlt2)
      have hsn : dval (l.take (k + 1)) = 10 * dval (l.take k) + (l[k].toNat - 48) := by
        rw [List.take_succ_eq_append_getElem hlt2, dval_snoc]
      have hle : dval (l.take (k + 1)) ≤ n := by have := dval_take l (k + 1); rw [HD.out] at this; exact this
      rw [← hgt] at hdg hsn
      clear hgt
      go_wp2_with fail
      go_round
      case rel => exact ⟨k + 1, by omega, by go_num, by rw [hsn]; go_num⟩
      case measure => simp [intOf]; omega
    · have hX : dval (l.take k) = n := by
        rw [List.take_of_length_le (by rw [← HZ.out]; omega)]; exact HD.out
      revert hX
      generalize dval (l.take k) = X
      intro hX
      subst hX
      have hfirst : 1 < (bs l).size → ((bs l)[0]'(by omega)).toNat ≠ 48 := by
        intro h1
        have h2 : 0 < l.length := by rw [← HZ.out]; omega
        obtain ⟨c, l', e, hc⟩ := HF.out (by rw [← HZ.out]; exact h1)
        rw [bs_get l 0 h2]
        subst e
        exact hc
      have HFI := Lib.hid hfirst
      clear hfirst
      go_wp2_with fail
      all_goals (first
        | (exfalso; have := HFI.out (by omega); omega)
        | (refine (HM.out _ HF3.out).mono ?_
           rintro e w4 ⟨rfl, F⟩
           have HF4 := Lib.hid (HF3.out.trans F)
           have hle : (bs l2).size ≤ (bs l).size := by rw [HZ.out, HZ2.out]; exact HS.out
           clear F
           go_wp2_with fail
           go_ret
           first
             | exact ⟨rfl, HF4.out⟩
             | (refine ⟨ret_bool ?_, HF4.out⟩
                simp
                omega)))
end Go.Proofs.YtfegdmhfmhaneaaDoor
