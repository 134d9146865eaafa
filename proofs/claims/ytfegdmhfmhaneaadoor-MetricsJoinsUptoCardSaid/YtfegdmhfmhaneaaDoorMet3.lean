/-
  How a dependency stands, as a line: metrics.Line.
-/
import Derived.Test.YtfegdmhfmhaneaaDoorMet2
import Derived.Test.YtfegdmhfmhaneaaDoorApp
import Derived.Deep.RegionLawGrows
import Derived.Deep.CutRange
import Derived.Maps.RangeWalk
namespace Go.Proofs.YtfegdmhfmhaneaaDoor
open Go.RowKit Go.Lib Go.Sort

theorem Tryd.info_str : (Tryd.prog.info? 9).map (fun i => (i.zero, i.size, i.bytes)) = some (some (.string ⟨#[]⟩), 1, 16) := by kernel_rfl
theorem Tryd.info_u64 : (Tryd.prog.info? 22).map (fun i => (i.zero, i.size, i.bytes)) = some (some (.int .u64 0), 1, 8) := by kernel_rfl
theorem info_partsM {P : Program} {t : TypeId} {z : Value} {a b : Nat} (h : (P.info? t).map (fun i => (i.zero, i.size, i.bytes)) = some (some z, a, b)) : ∃ i, P.info? t = some i ∧ i.zero = some z ∧ i.size = a ∧ i.bytes = b := by
  cases hi : P.info? t with
  | none => rw [hi] at h; cases h
  | some i =>
    rw [hi] at h
    simp only [Option.map_some, Option.some.injEq, Prod.mk.injEq] at h
    exact ⟨i, rfl, h.1, h.2.1, h.2.2⟩
theorem ownsFormM {w : World} {base : Nat} {e : TypeId} {size : Nat} {v : Value} {n : Nat} {xs : List Value} (h : w.ownsRow base e size v n xs) : ∃ ao cap, v = .slice ao n cap := by
  rcases h.2 with ⟨h, h0⟩ | ⟨g, c, cur, h, _⟩
  · exact ⟨none, 0, by rw [h, h0]⟩
  · exact ⟨_, _, h⟩
theorem Fr.of_grownM {S : List Nat} {a w w' : World} {row : Option Nat} (h : Fr S a w) (hg : w.grownBy w' row) (hr : ∀ k, row = some k → k ∈ S ∨ a.heap.size ≤ k) : Fr S a w' :=
  ⟨hg.os.trans h.os, hg.tape.trans h.tape, hg.output.trans h.output, Nat.le_trans h.size hg.size, fun i hi hn =>
    (hg.block i (Nat.lt_of_lt_of_le hi h.size) (fun e => by rcases hr i e.symm with h1 | h1; exact hn h1; omega)).trans (h.block i hi hn)⟩
def strs (l : List (List UInt8)) : List Value := l.map fun x => Value.string (bs x)
theorem owns_ne {w : World} {base : Nat} {e e' : TypeId} {size : Nat} {v : Value} {n : Nat} {xs : List Value} (h : w.ownsRow base e size v n xs) {g : Nat} {c : Array Value} (hg : w.heap[g]? = some (.cells c e')) (hne : e ≠ e') : ∀ k, v.ownBlock = some k → k ≠ g := by
  rintro k hk rfl
  rcases h.2 with ⟨hv, _⟩ | ⟨g', cap, cur, hv, _, hh, _⟩
  · rw [hv] at hk; cases hk
  · rw [hv] at hk
    simp only [Value.ownBlock, Option.some.injEq] at hk
    subst hk
    rw [hh] at hg
    simp only [Option.some.injEq, Obj.cells.injEq] at hg
    exact hne hg.2.1
theorem owns_out {w : World} {base : Nat} {e : TypeId} {v : Value} {n : Nat} {xs : List Value} (h : w.ownsRow base e 1 v n xs) (hn : 0 < n) :
    ∃ g cap cur, v = .slice (some ⟨g, 0, none⟩) n cap ∧ n ≤ cap ∧ base ≤ g ∧ w.heap[g]? = some (.cells cur e (0, 0)) ∧ ∀ j, j < n → cur[j]? = xs[j]? := by
  rcases h.2 with ⟨_, h0⟩ | ⟨g, cap, cur, hv, hb, hh, hc, _, _, htake⟩
  · omega
  · refine ⟨g, cap, cur, hv, hc, hb, hh, fun j hj => ?_⟩
    rw [← htake, List.getElem?_take, if_pos (by omega)]
    simp
theorem strs_snoc (l : List (List UInt8)) (k : Nat) (x : List UInt8) (hk : l[k]? = some x) : strs (l.take k) ++ [Value.string (bs x)] = strs (l.take (k + 1)) := by
  rw [List.take_add_one, hk]
  simp [strs]
theorem words_len (s : Sn) (hs : s.ok) : ∀ x ∈ s.words, x.length ≤ 21 := by
  obtain ⟨h0, h1, h2, h3, h4, h5, h6, h7, h8, h9, h10, h11⟩ := hs
  intro x hx
  simp only [Sn.words, List.mem_cons, List.not_mem_nil, or_false] at hx
  rcases hx with rfl | rfl | rfl | rfl | rfl | rfl | rfl | rfl | rfl | rfl | rfl | rfl
  iterate 5 (first | exact itoa_len _ (by assumption))
  all_goals exact Nat.le_trans (dec_len _ (by assumption)).2 (by decide)
theorem line_len (s : Sn) (hs : s.ok) : s.line.length ≤ 300 := by
  have h := words_len s hs
  obtain ⟨b, bw, f, c, br, k0, k1, k2, k3, k4, ha, al⟩ := s
  simp only [Sn.words, List.mem_cons, List.not_mem_nil, or_false, forall_eq_or_imp, forall_eq] at h
  simp only [Sn.line, Sn.words, Lib.join]
  simp [List.intercalate, List.intersperse]
  omega
set_option maxHeartbeats 4000000 in
set_option maxRecDepth 20000 in
theorem line_spec (s : Sn) (hs : s.ok) (w : World) (ht : Tab w) :
    Calls Tryd.prog 10 #[.agg s.vals] w fun e w' => e = .returned (.string (bs s.line)) ∧ Fr [] w w' := by
  obtain ⟨i0, hi, hz0, hz1, hz2⟩ := info_partsM Tryd.info_str
  obtain ⟨i1, hj, hy0, hy1, hy2⟩ := info_partsM Tryd.info_u64
  have HS := Lib.hid hs
  have HLL := Lib.hid (line_len s hs)
  have HT := Lib.hid (fun (w' : World) (F : Fr [] w w') => ht.fr F)
  clear ht hs
  go_enter Tryd.func10, Tryd.ntmps10
  go_wp2_with fail
  obtain ⟨W, hW⟩ : ∃ W, W = (w.alloc (.cells s.vals 28)).alloc (.cells #[.int .i64 s.b, .int .i64 s.w, .int .i64 s.f, .int .i64 s.c, .int .i64 s.br] 3) := ⟨_, rfl⟩
  rw [← hW]
  have HB1 := Lib.hid (((Fr.refl [] _).alloc (.cells #[.int .i64 s.b, .int .i64 s.w, .int .i64 s.f, .int .i64 s.c, .int .i64 s.br] 3)).keep (block_alloc_new w (.cells s.vals 28)) (by simp))
  have HB2 := Lib.hid (block_alloc_new (w.alloc (.cells s.vals 28)) (.cells #[.int .i64 s.b, .int .i64 s.w, .int .i64 s.f, .int .i64 s.c, .int .i64 s.br] 3))
  have HF0 := Lib.hid (((Fr.refl [] w).alloc (.cells s.vals 28)).alloc (.cells #[.int .i64 s.b, .int .i64 s.w, .int .i64 s.f, .int .i64 s.c, .int .i64 s.br] 3))
  have hsz : W.heap.size = w.heap.size + 2 := by rw [hW]; simp
  rw [← hW] at HB1 HB2 HF0
  rw [World.size_alloc] at HB2
  clear hW
  have HW := Lib.hid (show s.words.length = 12 from rfl)
  go_loopw [3, 20] (fun sv kv wr => ∃ k : Nat, k ≤ 5 ∧ kv = .int .i64 k ∧ Hid (wr.ownsRow W.heap.size 9 1 sv k (strs (s.words.take k))) ∧ Hid (Fr [] W wr)) (fun _ kv _ => 5 - (Go.RowKit.intOf kv).toNat)
  case atStart => exact ⟨0, by omega, rfl, Lib.hid (World.ownsRow_nil W _ _ 1), Lib.hid (Fr.refl _ _)⟩
  case round =>
    obtain ⟨k, hk, rfl, HO, HF⟩ := hrel
    obtain ⟨ao, cap, rfl⟩ := ownsFormM HO.out
    by_cases hlt : k < 5
    · obtain ⟨n, hn, hn64, hwd⟩ : ∃ n, n = [s.b, s.w, s.f, s.c, s.br].getD k 0 ∧ I64 n ∧ s.words[k]? = some (Lib.itoa n) := by
        have h := HS.out
        match k, hlt with
        | 0, _ => exact ⟨_, rfl, h.1, rfl⟩
        | 1, _ => exact ⟨_, rfl, h.2.1, rfl⟩
        | 2, _ => exact ⟨_, rfl, h.2.2.1, rfl⟩
        | 3, _ => exact ⟨_, rfl, h.2.2.2.1, rfl⟩
        | 4, _ => exact ⟨_, rfl, h.2.2.2.2.1, rfl⟩
      have hcell : wr.cell? ⟨w.heap.size + 1, k, none⟩ = some (.int .i64 n) := by
        rw [cell_of_block (HF.out.keep HB2.out (by simp)), hn]
        match k, hlt with
        | 0, _ => rfl
        | 1, _ => rfl
        | 2, _ => rfl
        | 3, _ => rfl
        | 4, _ => rfl
      have HN := Lib.hid (fun (w' : World) (F : Fr [] w w') => itoa_spec n hn64 w' (HT.out w' F))
      have HW1 := Lib.hid (strs_snoc s.words k _ hwd)
      have b0 : (0 : Int) ≤ (k : Int) := by omega
      have b1 : (k : Int) < 5 := by omega
      clear hn hwd hn64
      go_wp2_with fail
      refine (HN.out wr (HF0.out.trans HF.out)).mono ?_
      rintro e w2 ⟨rfl, F2⟩
      have HF2 := Lib.hid (HF.out.trans F2)
      have HO2 := Lib.hid (ownsRow_fr HO.out F2 (by simp))
      clear F2 hcell HO
      go_wp2_with (at_builtin; refine wpList_app rfl (.tmp 24) (.tmp 27) 50 rfl W.heap.size 9 i0 _ 1 16 Tryd.underlying50 hi hz0 hz1 hz2 rfl (by decide) (.slice ao k cap) k _ rfl (HO2.out.alloc _) _ 1 _ rfl (Src.one _ _ _ rfl) (by unfold maxLen; omega) (by omega) (by have := HF2.out.size; simp; omega) ?_; intro v8 w8 hown hg)
      have HF8 := Lib.hid (Fr.of_grownM (HF2.out.alloc _) hg (fun q hq => Or.inr (World.ownsRow.lt HO2.out q hq).1))
      rw [HW1.out] at hown
      have HO8 := Lib.hid hown
      clear hown hg
      go_wp2_with fail
      go_roundw
      case rel => exact ⟨k + 1, by omega, by go_num, HO8, HF8⟩
      case measure => simp [Go.RowKit.intOf]; omega
    · obtain rfl : k = 5 := by omega
      have HBr := Lib.hid (HF.out.keep HB1.out (by simp))
      have KC := Lib.hid (fun (w' : World) (F : Fr [] wr w') => (by
        have hb := F.keep HBr.out (by simp)
        refine ⟨?_, ?_, ?_, ?_, ?_, ?_, ?_⟩ <;> (rw [cell_of_block hb]; rfl) : w'.cell? ⟨w.heap.size, 5, none⟩ = some (.int .u64 s.k0) ∧ w'.cell? ⟨w.heap.size, 6, none⟩ = some (.int .u64 s.k1) ∧ w'.cell? ⟨w.heap.size, 7, none⟩ = some (.int .u64 s.k2) ∧ w'.cell? ⟨w.heap.size, 8, none⟩ = some (.int .u64 s.k3) ∧ w'.cell? ⟨w.heap.size, 9, none⟩ = some (.int .u64 s.k4) ∧ w'.cell? ⟨w.heap.size, 10, none⟩ = some (.int .u64 s.ha) ∧ w'.cell? ⟨w.heap.size, 11, none⟩ = some (.int .u64 s.al)))
      have HOLD : Hid (∀ (w' : World), Fr [] wr w' → ∀ (j : Nat) (u : Value), [Value.int .u64 s.k0, .int .u64 s.k1, .int .u64 s.k2, .int .u64 s.k3, .int .u64 s.k4][j]? = some u → w'.cell? ⟨w.heap.size, 5 + j, none⟩ = some u) := Lib.hid (fun w' F => by
        obtain ⟨d0, d1, d2, d3, d4, _, _⟩ := KC.out w' F
        intro j u hj
        match j, hj with
        | 0, hj => cases hj; exact d0
        | 1, hj => cases hj; exact d1
        | 2, hj => cases hj; exact d2
        | 3, hj => cases hj; exact d3
        | 4, hj => cases hj; exact d4
        | j + 5, hj => cases hj)
      obtain ⟨-, -, -, -, -, c5, c6⟩ := KC.out wr (Fr.refl _ _)
      have FX := Fr.refl [] wr
      go_wp2_with fail
      go_region_law (refine step_append_grows rfl (.tmp 31) (.tmp 36) 53 rfl 22 i1 _ 1 8 Tryd.underlying53 hj hy0 hy1 hy2 rfl (by decide) (some ⟨w.heap.size, 5, none⟩) 5 5 [Value.int .u64 s.k0, .int .u64 s.k1, .int .u64 s.k2, .int .u64 s.k3, .int .u64 s.k4] (by simp [Act.eval]) (fun h => by cases h) rfl (fun b hb j u hj => by cases hb; rw [Addr.add_lit]; exact HOLD.out _ (by repeat (first | exact FX | exact Fr.refl _ _ | apply Fr.drew | apply Fr.drewN | apply Fr.alloc)) j u hj) ⟨wr.heap.size, 0, none⟩ 2 2 [Value.int .u64 s.ha, .int .u64 s.al] (by simp [Act.eval]) rfl (by intro j u hj; rw [Addr.add_lit]; refine Eq.trans (World.cell?_alloc_new _ _ _ _) ?_; simpa using hj) (by intro u hu; simp at hu; rcases hu with rfl | rfl <;> rfl) (by decide) (by decide) (by decide) ?_; intro v' w' hown hg; obtain ⟨g7, c7, cur7, rfl, hc7, hg7, hh7, hr7⟩ := owns_out hown (by decide); have FY : Fr [] wr w' := Fr.of_grownM (S := []) (by repeat (first | exact FX | exact Fr.refl _ _ | apply Fr.drew | apply Fr.drewN | apply Fr.alloc)) hg (fun _ h => by cases h))
      all_goals (
        have HF7 := Lib.hid (HF.out.trans FY)
        have HO7 := Lib.hid (ownsRow_fr HO.out FY (by simp))
        have HH7 := Lib.hid hh7
        have HR7 := Lib.hid hr7
        clear HOLD KC FX FY hown hg hh7 hr7 HO HF c5 c6 HBr hg7 hj hy0 hy1 hy2 i1
        go_wp2_with fail
        simp only [List.getElem_toArray, List.getElem_cons_succ, List.getElem_cons_zero]
        go_frame
        go_loopw [3, 39] (fun sv kv wr => ∃ k : Nat, k ≤ 7 ∧ kv = .int .i64 k ∧ Hid (wr.ownsRow W.heap.size 9 1 sv (5 + k) (strs (s.words.take (5 + k)))) ∧ Hid (Fr [] W wr) ∧ Hid (wr.heap[g7]? = some (.cells cur7 22))) (fun _ kv _ => 7 - (Go.RowKit.intOf kv).toNat)
        case atStart => exact ⟨0, by omega, rfl, HO7, HF7, HH7⟩
        case round =>
          clear HO7 HF7 HH7
          obtain ⟨k, hk, rfl, HO, HF, HH⟩ := hrel
          obtain ⟨ao, cap, rfl⟩ := ownsFormM HO.out
          by_cases hlt : k < 7
          · obtain ⟨n, hn, hn64, hwd⟩ : ∃ n : Nat, cur7[k]? = some (.int .u64 n) ∧ n < 18446744073709551616 ∧ s.words[5 + k]? = some (Lib.decDigits n) := by
              have h := HS.out
              rw [HR7.out k hlt]
              match k, hlt with
              | 0, _ => exact ⟨_, rfl, h.2.2.2.2.2.1, rfl⟩
              | 1, _ => exact ⟨_, rfl, h.2.2.2.2.2.2.1, rfl⟩
              | 2, _ => exact ⟨_, rfl, h.2.2.2.2.2.2.2.1, rfl⟩
              | 3, _ => exact ⟨_, rfl, h.2.2.2.2.2.2.2.2.1, rfl⟩
              | 4, _ => exact ⟨_, rfl, h.2.2.2.2.2.2.2.2.2.1, rfl⟩
              | 5, _ => exact ⟨_, rfl, h.2.2.2.2.2.2.2.2.2.2.1, rfl⟩
              | 6, _ => exact ⟨_, rfl, h.2.2.2.2.2.2.2.2.2.2.2, rfl⟩
            have hcell : wr.cell? ⟨g7, k, none⟩ = some (.int .u64 n) := by
              rw [cell_of_block HH.out, hn]
            have HN := Lib.hid (fun (w' : World) (F : Fr [] w w') => num_spec n hn64 w' (HT.out w' F))
            have HW1 := Lib.hid (strs_snoc s.words (5 + k) _ hwd)
            have b0 : (0 : Int) ≤ (k : Int) := by omega
            have b1 : (k : Int) < 7 := by omega
            clear hn hwd hn64
            go_wp2_with fail
            refine (HN.out wr (HF0.out.trans HF.out)).mono ?_
            rintro e w2 ⟨rfl, F2⟩
            have HF2 := Lib.hid (HF.out.trans F2)
            have HO2 := Lib.hid (ownsRow_fr HO.out F2 (by simp))
            have HH2 := Lib.hid (F2.keep HH.out (by simp))
            clear F2 hcell HO HH
            go_wp2_with (at_builtin; refine wpList_app rfl (.tmp 43) (.tmp 46) 50 rfl W.heap.size 9 i0 _ 1 16 Tryd.underlying50 hi hz0 hz1 hz2 rfl (by decide) (.slice ao (5 + k) cap) (5 + k) _ rfl (HO2.out.alloc _) _ 1 _ rfl (Src.one _ _ _ rfl) (by unfold maxLen; omega) (by omega) (by have := HF2.out.size; simp; omega) ?_; intro v8 w8 hown hg)
            have HF8 := Lib.hid (Fr.of_grownM (HF2.out.alloc _) hg (fun q hq => Or.inr (World.ownsRow.lt HO2.out q hq).1))
            have HH8 := Lib.hid ((hg.block g7 (by have := lt_of_block HH2.out; simp; omega) (fun e => owns_ne HO2.out HH2.out (by decide) g7 e.symm rfl)).trans (((Fr.refl [] w2).alloc _).keep HH2.out (by simp)))
            rw [HW1.out] at hown
            have HO8 := Lib.hid hown
            clear hown hg
            go_wp2_with fail
            go_roundw
            case rel => exact ⟨k + 1, by omega, by go_num, HO8, HF8, HH8⟩
            case measure => simp [Go.RowKit.intOf]; omega
          · obtain rfl : k = 7 := by omega
            obtain ⟨gs, cs, curs, hv, hcs, hgs, hhs, hrs⟩ := owns_out HO.out (by decide)
            simp only [Value.slice.injEq, true_and] at hv
            obtain ⟨rfl, rfl⟩ := hv
            have hmap : (s.words.map bs).map (·.data.toList) = s.words := by
              rw [List.map_map]
              exact (List.map_congr_left (fun x _ => by simp [bs])).trans (List.map_id _)
            have hlen : (s.words.map bs).length = 12 := by rw [List.length_map, HW.out]
            have HJ := Lib.hid (Tryd.strings_Join gs 0 cap (s.words.map bs) ⟨#[32]⟩ wr (by
              intro j x hj
              have hj12 : j < 12 := by
                have := (List.getElem?_eq_some_iff.mp hj).1
                omega
              rw [Nat.zero_add, cell_of_block hhs, hrs j hj12]
              rw [List.getElem?_map] at hj
              cases hw : s.words[j]? with
              | none => rw [hw] at hj; cases hj
              | some y =>
                rw [hw] at hj
                simp only [Option.map_some, Option.some.injEq] at hj
                subst hj
                rw [show s.words.take (5 + 7) = s.words from List.take_of_length_le (by rw [HW.out]; decide)]
                simp [strs, hw]) (lt_of_block hhs) (by omega) (by omega) (by rw [hmap]; have := HLL.out; exact Nat.le_trans this (by decide)))
            rw [hlen, hmap] at HJ
            have HE : Hid ((⟨(Lib.join s.words (⟨#[32]⟩ : ByteArray).data.toList).toArray⟩ : ByteArray) = bs s.line) := Lib.hid rfl
            rw [HE.out] at HJ
            have HFW := Lib.hid (HF0.out.trans HF.out)
            clear hmap hlen hrs hhs hgs hcs HR7
            go_wp2_with fail
            refine HJ.out.mono ?_
            rintro e w9 ⟨rfl, hB⟩
            have HF9 := Lib.hid (HFW.out.trans (Fr.of_below (S := []) hB))
            clear hB
            go_wp2_with fail
            go_ret
            exact ⟨rfl, HF9.out⟩)
end Go.Proofs.YtfegdmhfmhaneaaDoor
