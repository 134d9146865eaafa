/-
  move: its walk.
-/
import Derived.Test.YtibnhfnidgfenaaWheel13
namespace Go.Proofs.Ytibnhfnidgfenaa
open Go.RowKit

variable {w : World} {b m1 m2 : Nat} {fp : List Nat} {now seq : Nat} {L : List Ent} {la : List ((Int × Int) × Value)} {f : Int × Int → List Nat}

/-- The slot that is come to, as the map's key. -/
def comesI (to n : Nat) : Int × Int := (((comes to n).1 : Int), ((comes to n).2 : Int))

/-- What move leaves at a level. -/
def MovedTo (w : World) (b m1 m2 : Nat) (fp : List Nat) (was to seq : Nat) (L : List Ent) (la : List ((Int × Int) × Value)) (n : Nat) (wr : World) : Prop :=
  ∃ fp' f', Core wr b m1 m2 fp' to seq L la f' ∧ Stands f' L (fun e => spotAtI was to n e.due) ∧ Sub fp' fp w ∧ Fr fp w wr

set_option maxHeartbeats 4000000 in
set_option maxRecDepth 20000 in
theorem move_spec (h : Core w b m1 m2 fp now seq L la f) (hst : Stands f L (fun e => spotI now e.due)) {to : Nat} (hto : now ≤ to) (hlt : to < 18446744073709551616) (hdue : ∀ e ∈ L, to ≤ e.due ∧ e.due < 18446744073709551616) (hlen : L.length ≤ 50000) :
    Calls Try.prog 44 #[.pointer (some ⟨b, 0, none⟩), .int .u64 to] w fun r w' => r = .returned (.tuple #[]) ∧ MovedTo w b m1 m2 fp now to seq L la 0 w' := by
  have c0 := h.c0
  have hfz := free_of_block h.blk
  have HBl := Lib.hid (fun w' (t n : Nat) (hn : n ≤ 5) => block_spec w' t n hn)
  have HSl := Lib.hid (fun w' (n : Nat) (hn : n ≤ 5) => slot_spec w' to n hn hlt)
  have hbfp : b ∈ fp := h.foot b (by simp [ownW])
  have F1 : Fr fp w (w.setCell ⟨b, 0, none⟩ (.int .u64 to)) := (Fr.refl _ _).setCell (.inl hbfp) _
  have HSt : Hid (MovedTo w b m1 m2 fp now to seq L la 4 (w.setCell ⟨b, 0, none⟩ (.int .u64 to))) := Lib.hid ⟨fp, f, h.setNow to, hst.congr (fun e _ => by unfold spotAtI; rw [spotAt_start]; rfl), Sub.refl _ _, F1⟩
  have HD := Lib.hid hdue
  clear h hst hdue F1 hbfp
  go_enter Try.func44, Try.ntmps44
  go_wp2_with fail
  go_loopw [5] (fun v wr => ∃ n : Nat, n ≤ 4 ∧ v = .int .i64 n ∧ Hid (MovedTo w b m1 m2 fp now to seq L la n wr)) (fun v _ => (intOf v).toNat)
  case atStart => exact ⟨4, by omega, rfl, HSt⟩
  case round =>
    clear HSt c0 hfz
    obtain ⟨n0, hn, rfl, HM⟩ := hrel
    by_cases h0 : n0 = 0
    · subst h0
      go_wp2_with fail
      go_end0
      exact ⟨rfl, HM.out⟩
    · obtain ⟨n, rfl⟩ : ∃ n, n0 = n + 1 := ⟨n0 - 1, by omega⟩
      clear h0
      have HB1 := Lib.hid (HBl.out wr now (n + 1) (by omega))
      have HB2 := Lib.hid (HBl.out wr to (n + 1) (by omega))
      have hpos : (0 : Int) < ((n + 1 : Nat) : Int) := by omega
      have hsub : ((n + 1 : Nat) : Int) - 1 = (n : Int) := by omega
      by_cases hb : blk now (n + 1) = blk to (n + 1)
      · have HN : Hid (MovedTo w b m1 m2 fp now to seq L la n wr) := Lib.hid (by
          obtain ⟨fp', f', k1, k2, k3, k4⟩ := HM.out
          exact ⟨fp', f', k1, k2.congr (fun e he => by unfold spotAtI; rw [spotAt_skip hto (HD.out e he).1 hb]), k3, k4⟩)
        rw [hb] at HB1
        clear hb
        generalize blk to (n + 1) = B at *
        go_wp2_with fail
        refine HB1.out.mono ?_
        rintro r w1 ⟨rfl, hw1⟩
        subst hw1
        go_wp2_with fail
        refine HB2.out.mono ?_
        rintro r w1 ⟨rfl, hw1⟩
        subst hw1
        go_wp2_with fail
        go_roundw
        case rel => exact ⟨n, by omega, by first | rfl | (congr 1), HN⟩
        case measure => simp [intOf]
      · have hb' : (((blk now (n + 1) : Nat) : Int) == ((blk to (n + 1) : Nat) : Int)) = false := by simpa using fun h => hb (by omega)
        clear hb
        generalize blk to (n + 1) = B at *
        generalize blk now (n + 1) = B' at *
        have HSn := Lib.hid (HSl.out wr (n + 1) (by omega))
        go_wp2_with fail
        refine HB1.out.mono ?_
        rintro r w1 ⟨rfl, hw1⟩
        subst hw1
        go_wp2_with fail
        refine HB2.out.mono ?_
        rintro r w1 ⟨rfl, hw1⟩
        subst hw1
        go_wp2_with fail
        refine HSn.out.mono ?_
        rintro r w1 ⟨rfl, hw1⟩
        subst hw1
        go_wp2_with fail
        · have hn3 : n = 3 := by
            have : (n : Int) + 1 = 4 := by simpa using ‹((n : Int) + 1 == 4) = true›
            omega
          subst hn3
          have hq : comesI to 4 = (4, 0) := rfl
          have HM : Hid (MovedTo w b m1 m2 fp now to seq L la 4 w1) := HM
          have h34 : ((3 : Nat) : Int) + 1 = 4 := rfl
          simp only [h34]
          clear h34
          obtain ⟨fp1, f1, C1, S1, U1, F1⟩ := HM.out
          obtain ⟨w2, hw2⟩ : ∃ w2, w2 = w1.alloc (.cells #[.int .i64 (4), .int .i64 0] 103) := ⟨_, rfl⟩
          have C2 : Core w2 b m1 m2 fp1 to seq L la f1 := by rw [hw2]; exact C1.fr0 ((Fr.refl _ _).alloc _)
          have F2 : Fr fp w w2 := by rw [hw2]; exact F1.alloc _
          have x0 : w2.cell? ⟨w1.heap.size, 0, none⟩ = some (.int .i64 (4)) := by rw [hw2]; simp
          have x1 : w2.cell? ⟨w1.heap.size, 1, none⟩ = some (.int .i64 0) := by rw [hw2]; simp
          have hbx : w1.heap.size < w2.heap.size := by rw [hw2]; simp
          have hlt1 := C1.lt
          have c3 := C2.c3
          have hm2 : m2 ∈ fp1 := C2.foot m2 (by simp [ownW])
          have hbm : b ≠ m2 := by have := C2.dist; simp [ownW] at this; exact fun e => this.1.2.1 e
          rw [← hw2]
          clear hw2
          obtain ⟨lb, hM, hR, hS, hK⟩ := C2.rows
          obtain ⟨es, e1, e2⟩ := perm_map (S1 (4, 0)) (L.filter fun e => decide (spotAtI now to 4 e.due = (4, 0))) rfl
          have hel : es.length ≤ 50000 := by rw [e1.length_eq]; have := List.length_filter_le (fun e => decide (spotAtI now to 4 e.due = (4, 0))) L; omega
          have hrow := hR (4, 0)
          rw [← e2] at hrow
          obtain ⟨av, cv, hv, hcl⟩ : ∃ a c, rowAt lb (4, 0) = .slice a es.length c ∧ ∀ t, t < es.length → ∃ g, a = some ⟨g, 0, none⟩ ∧ w2.cell? ⟨g, t, none⟩ = some (.pointer (some ⟨(es.getD t default).blk, 0, none⟩)) := by
            by_cases hes : es = []
            · subst hes
              rcases hrow.2 with ⟨h3, _⟩ | ⟨g, cap, cur, h3, _⟩
              · exact ⟨none, 0, h3, fun t ht => by simp at ht⟩
              · exact ⟨_, cap, h3, fun t ht => by simp at ht⟩
            · obtain ⟨g, cap, h3, hP, -⟩ := hrow.parts (by simpa using hes)
              rw [List.length_map] at h3
              refine ⟨_, cap, h3, fun t ht => ⟨g, rfl, ?_⟩⟩
              have := hP.1 t (by simpa using ht)
              rwa [getE_blk ht] at this
          have hlk : ∀ q, (Instr.lookup 79 (.map (some m2)) (.agg #[.int .i64 (4), .int .i64 0]) false).run Try.prog (w2.drewN q) = .ok (.slice av es.length cv) (w2.drewN q) := fun q => by
            have := run_look keyPlace Try.underlying79 zeroRow (hM.kv.drewN q) (4, 0) false
            simp only [Bool.false_eq_true, if_false, enc2] at this
            rw [this]
            exact congrArg (fun v => Result.ok v (w2.drewN q)) hv
          have KS := Lib.hid (fun (w' : World) (F : Fr [m2] w2 w') => (⟨F.on x0 (by have := hlt1 m2 hm2; simp; omega), F.on x1 (by have := hlt1 m2 hm2; simp; omega), F.on c3 (by simpa using hbm)⟩ : w'.cell? ⟨w1.heap.size, 0, none⟩ = some (.int .i64 (4)) ∧ w'.cell? ⟨w1.heap.size, 1, none⟩ = some (.int .i64 0) ∧ w'.cell? ⟨b, 3, none⟩ = some (.map (some m2))))
          have HR := Lib.hid hR
          have HSep := Lib.hid hS
          have HK := Lib.hid hK
          have HC2 := Lib.hid C2
          have HS1 := Lib.hid S1
          have HU1 := Lib.hid U1
          have HF2 := Lib.hid F2
          have HMB := Lib.hid hM
          have HE1 := Lib.hid e1
          have HCL := Lib.hid hcl
          have hs12 := F1.size
          clear hR hS hK C2 S1 U1 F1 F2 hM e1 hcl C1 e2 hrow
          go_quiet (fail)
          go_wp2_with fail
          obtain ⟨w3, hu, hM3, hF3'⟩ := del_runB (K' := 103) (ty := 0) keyPlace Try.underlying79 (HMB.out.fr (S := []) (Fr.of_drewN w2 (nq + 1)) (by simp)) (4, 0)
          simp only [enc2] at hu
          have hF3 : Fr [m2] w2 w3 := Fr.trans (Fr.of_drewN w2 (nq + 1)) hF3'
          have HC3 := Lib.hid (HC2.out.drop HR.out HSep.out HK.out hM3 hF3)
          have HL3 : Hid (Laying (upd f1 (4, 0) []) L es (fun e => spotAtI now to 4 e.due) (fun e => spotI to e.due) (4, 0) 0) := Lib.hid (Laying.start HS1.out)
          have HF3 := Lib.hid hF3
          clear hM3 hF3' hlk
          have HGN : Hid (∀ g, av = some ⟨g, 0, none⟩ → g ∉ fp1.filter fun k => decide ((rowAt lb (4, 0)).ownBlock ≠ some k)) := Lib.hid (fun g hg hm => by
            have := of_decide_eq_true (List.mem_filter.1 hm).2
            rw [hv, hg] at this
            exact this rfl)
          have HGM : Hid (∀ g, av = some ⟨g, 0, none⟩ → g ≠ m2) := Lib.hid (fun g hg h2 => by
            have := (HK.out (4, 0) g (by rw [hv, hg]; rfl)).2
            exact this (by simp [ownW, h2]))
          have HSub3 : Hid (Sub (fp1.filter fun k => decide ((rowAt lb (4, 0)).ownBlock ≠ some k)) fp w) := Lib.hid (fun x hx => HU1.out x (List.mem_filter.1 hx).1)
          generalize (fp1.filter fun k => decide ((rowAt lb (4, 0)).ownBlock ≠ some k)) = fp3 at *
          go_region_held3 (fun w' => w'.cell? ⟨w1.heap.size, 0, none⟩ = some (.int .i64 (4)) ∧ w'.cell? ⟨w1.heap.size, 1, none⟩ = some (.int .i64 0) ∧ w'.cell? ⟨b, 3, none⟩ = some (.map (some m2)))
            (first | exact KS.out _ hF3 | exact KS.out _ (Fr.of_drewN _ _) | exact KS.out _ ((Fr.of_drewN _ _).drew)) (fail)
          all_goals clear hu KS hF3
          all_goals go_wp2_with fail
          all_goals (
            go_loopw [50] (fun v wk => ∃ (k : Nat), k ≤ es.length ∧ v = .int .i64 k ∧ Hid (∃ fpk fk, Core wk b m1 m2 fpk to seq L la fk ∧ Laying fk L es (fun e => spotAtI now to 4 e.due) (fun e => spotI to e.due) (4, 0) k ∧ Sub fpk fp3 w3 ∧ Fr fp3 w3 wk)) (fun v _ => es.length - (intOf v).toNat)
            case atStart => exact ⟨0, Nat.zero_le _, rfl, Lib.hid ⟨fp3, _, HC3.out, HL3.out, Sub.refl _ _, Fr.refl _ _⟩⟩
            case round =>
              obtain ⟨k, hk, rfl, HIn⟩ := hrel
              obtain ⟨fpk, fk, Ck, Lk, Uk, Fk⟩ := HIn.out
              by_cases hltk : k < es.length
              · obtain ⟨g, rfl, hcg⟩ := HCL.out k hltk
                have hcell := Fk.on (HF3.out.on hcg (by simpa using HGM.out g rfl)) (by simpa using HGN.out g rfl)
                have hmem := List.mem_filter.1 (HE1.out.mem_iff.1 (getE_mem hltk))
                have hlay := Ck.lay hmem.1 hlt (HD.out _ hmem.1).2 (by have := Lk.len (spotI to (es.getD k default).due); omega)
                have HLay := Lib.hid hlay
                have HLS := Lib.hid (Lk.step hltk)
                have HUk := Lib.hid Uk
                have HFk := Lib.hid Fk
                clear Ck Lk Uk Fk hcg hmem hlay
                generalize es.getD k default = ek at *
                go_wp2_with fail
                refine HLay.out.mono ?_
                rintro r w5 ⟨rfl, fpk', Ck', Uk', Fk'⟩
                have HN : Hid (∃ fpk fk, Core w5 b m1 m2 fpk to seq L la fk ∧ Laying fk L es (fun e => spotAtI now to 4 e.due) (fun e => spotI to e.due) (4, 0) (k + 1) ∧ Sub fpk fp3 w3 ∧ Fr fp3 w3 w5) := Lib.hid ⟨fpk', _, Ck', HLS.out, HUk.out.trans Uk' HFk.out.size, HFk.out.sub Fk' HUk.out⟩
                clear Ck' Uk' Fk'
                go_wp2_with fail
                go_roundw
                case rel => exact ⟨k + 1, by omega, by go_num, HN⟩
                case measure => simp [intOf]; omega
              · obtain rfl : k = es.length := by omega
                have HN : Hid (∃ wq, wq = wr ∧ MovedTo w b m1 m2 fp now to seq L la 3 wq) := Lib.hid (by
                  refine ⟨_, rfl, fpk, fk, Ck, Lk.done HE1.out (fun e he => ?_), HSub3.out.trans Uk (by have := HF3.out.size; have := HF2.out.size; omega), ?_⟩
                  · have hd := (HD.out e he).1
                    have hcc : spotAtI now to 4 e.due = (4, 0) ↔ spotAt now to 4 e.due = comes to 4 := by
                      rw [← hq]
                      exact pair_inj
                    by_cases hc : spotAt now to 4 e.due = comes to 4
                    · rw [if_pos (hcc.2 hc)]
                      show spotAtI now to 3 e.due = spotI to e.due
                      unfold spotAtI spotI
                      rw [spotAt_moved (by omega) hc]
                    · rw [if_neg (fun h => hc (hcc.1 h))]
                      unfold spotAtI
                      rw [spotAt_left hto hd (by omega) hc]
                  · exact (HF2.out.trans' HF3.out (fun x hx => by simp at hx; subst hx; exact HU1.out _ hm2)).trans' Fk (fun x hx => HSub3.out x hx))
                clear Ck Lk Uk Fk HIn
                obtain ⟨wq, hwq, hmv⟩ := HN.out
                subst hwq
                have HN2 := Lib.hid hmv
                clear HN hmv
                go_wp2_with fail
                go_roundw
                case rel => exact ⟨3, by omega, by first | rfl | (congr 1; omega) | go_num, HN2⟩
                case measure => simp [intOf])
        · have hn3 : ¬ n + 1 = 4 := by
            have : ¬ (n : Int) + 1 = 4 := by simpa using ‹((n : Int) + 1 == 4) = false›
            omega
          have hq : comesI to (n + 1) = ((n : Int) + 1, ((slot to (n + 1) : Nat) : Int)) := by
            unfold comesI comes
            rw [if_neg hn3]
            rfl
          generalize slot to (n + 1) = sl at *
          obtain ⟨fp1, f1, C1, S1, U1, F1⟩ := HM.out
          obtain ⟨w2, hw2⟩ : ∃ w2, w2 = w1.alloc (.cells #[.int .i64 ((n : Int) + 1), .int .i64 (sl : Int)] 103) := ⟨_, rfl⟩
          have C2 : Core w2 b m1 m2 fp1 to seq L la f1 := by rw [hw2]; exact C1.fr0 ((Fr.refl _ _).alloc _)
          have F2 : Fr fp w w2 := by rw [hw2]; exact F1.alloc _
          have x0 : w2.cell? ⟨w1.heap.size, 0, none⟩ = some (.int .i64 ((n : Int) + 1)) := by rw [hw2]; simp
          have x1 : w2.cell? ⟨w1.heap.size, 1, none⟩ = some (.int .i64 (sl : Int)) := by rw [hw2]; simp
          have hbx : w1.heap.size < w2.heap.size := by rw [hw2]; simp
          have hlt1 := C1.lt
          have c3 := C2.c3
          have hm2 : m2 ∈ fp1 := C2.foot m2 (by simp [ownW])
          have hbm : b ≠ m2 := by have := C2.dist; simp [ownW] at this; exact fun e => this.1.2.1 e
          rw [← hw2]
          clear hw2
          obtain ⟨lb, hM, hR, hS, hK⟩ := C2.rows
          obtain ⟨es, e1, e2⟩ := perm_map (S1 ((n : Int) + 1, (sl : Int))) (L.filter fun e => decide (spotAtI now to (n + 1) e.due = ((n : Int) + 1, (sl : Int)))) rfl
          have hel : es.length ≤ 50000 := by rw [e1.length_eq]; have := List.length_filter_le (fun e => decide (spotAtI now to (n + 1) e.due = ((n : Int) + 1, (sl : Int)))) L; omega
          have hrow := hR ((n : Int) + 1, (sl : Int))
          rw [← e2] at hrow
          obtain ⟨av, cv, hv, hcl⟩ : ∃ a c, rowAt lb ((n : Int) + 1, (sl : Int)) = .slice a es.length c ∧ ∀ t, t < es.length → ∃ g, a = some ⟨g, 0, none⟩ ∧ w2.cell? ⟨g, t, none⟩ = some (.pointer (some ⟨(es.getD t default).blk, 0, none⟩)) := by
            by_cases hes : es = []
            · subst hes
              rcases hrow.2 with ⟨h3, _⟩ | ⟨g, cap, cur, h3, _⟩
              · exact ⟨none, 0, h3, fun t ht => by simp at ht⟩
              · exact ⟨_, cap, h3, fun t ht => by simp at ht⟩
            · obtain ⟨g, cap, h3, hP, -⟩ := hrow.parts (by simpa using hes)
              rw [List.length_map] at h3
              refine ⟨_, cap, h3, fun t ht => ⟨g, rfl, ?_⟩⟩
              have := hP.1 t (by simpa using ht)
              rwa [getE_blk ht] at this
          have hlk : ∀ q, (Instr.lookup 79 (.map (some m2)) (.agg #[.int .i64 ((n : Int) + 1), .int .i64 (sl : Int)]) false).run Try.prog (w2.drewN q) = .ok (.slice av es.length cv) (w2.drewN q) := fun q => by
            have := run_look keyPlace Try.underlying79 zeroRow (hM.kv.drewN q) ((n : Int) + 1, (sl : Int)) false
            simp only [Bool.false_eq_true, if_false, enc2] at this
            rw [this]
            exact congrArg (fun v => Result.ok v (w2.drewN q)) hv
          have KS := Lib.hid (fun (w' : World) (F : Fr [m2] w2 w') => (⟨F.on x0 (by have := hlt1 m2 hm2; simp; omega), F.on x1 (by have := hlt1 m2 hm2; simp; omega), F.on c3 (by simpa using hbm)⟩ : w'.cell? ⟨w1.heap.size, 0, none⟩ = some (.int .i64 ((n : Int) + 1)) ∧ w'.cell? ⟨w1.heap.size, 1, none⟩ = some (.int .i64 (sl : Int)) ∧ w'.cell? ⟨b, 3, none⟩ = some (.map (some m2))))
          have HR := Lib.hid hR
          have HSep := Lib.hid hS
          have HK := Lib.hid hK
          have HC2 := Lib.hid C2
          have HS1 := Lib.hid S1
          have HU1 := Lib.hid U1
          have HF2 := Lib.hid F2
          have HMB := Lib.hid hM
          have HE1 := Lib.hid e1
          have HCL := Lib.hid hcl
          have hs12 := F1.size
          clear hR hS hK C2 S1 U1 F1 F2 hM e1 hcl C1 e2 hrow
          go_quiet (fail)
          go_wp2_with fail
          obtain ⟨w3, hu, hM3, hF3'⟩ := del_runB (K' := 103) (ty := 0) keyPlace Try.underlying79 (HMB.out.fr (S := []) (Fr.of_drewN w2 (nq + 1)) (by simp)) ((n : Int) + 1, (sl : Int))
          simp only [enc2] at hu
          have hF3 : Fr [m2] w2 w3 := Fr.trans (Fr.of_drewN w2 (nq + 1)) hF3'
          have HC3 := Lib.hid (HC2.out.drop HR.out HSep.out HK.out hM3 hF3)
          have HL3 : Hid (Laying (upd f1 ((n : Int) + 1, (sl : Int)) []) L es (fun e => spotAtI now to (n + 1) e.due) (fun e => spotI to e.due) ((n : Int) + 1, (sl : Int)) 0) := Lib.hid (Laying.start HS1.out)
          have HF3 := Lib.hid hF3
          clear hM3 hF3' hlk
          have HGN : Hid (∀ g, av = some ⟨g, 0, none⟩ → g ∉ fp1.filter fun k => decide ((rowAt lb ((n : Int) + 1, (sl : Int))).ownBlock ≠ some k)) := Lib.hid (fun g hg hm => by
            have := of_decide_eq_true (List.mem_filter.1 hm).2
            rw [hv, hg] at this
            exact this rfl)
          have HGM : Hid (∀ g, av = some ⟨g, 0, none⟩ → g ≠ m2) := Lib.hid (fun g hg h2 => by
            have := (HK.out ((n : Int) + 1, (sl : Int)) g (by rw [hv, hg]; rfl)).2
            exact this (by simp [ownW, h2]))
          have HSub3 : Hid (Sub (fp1.filter fun k => decide ((rowAt lb ((n : Int) + 1, (sl : Int))).ownBlock ≠ some k)) fp w) := Lib.hid (fun x hx => HU1.out x (List.mem_filter.1 hx).1)
          generalize (fp1.filter fun k => decide ((rowAt lb ((n : Int) + 1, (sl : Int))).ownBlock ≠ some k)) = fp3 at *
          go_region_held3 (fun w' => w'.cell? ⟨w1.heap.size, 0, none⟩ = some (.int .i64 ((n : Int) + 1)) ∧ w'.cell? ⟨w1.heap.size, 1, none⟩ = some (.int .i64 (sl : Int)) ∧ w'.cell? ⟨b, 3, none⟩ = some (.map (some m2)))
            (first | exact KS.out _ hF3 | exact KS.out _ (Fr.of_drewN _ _) | exact KS.out _ ((Fr.of_drewN _ _).drew)) (fail)
          all_goals clear hu KS hF3
          all_goals go_wp2_with fail
          all_goals (
            go_loopw [50] (fun v wk => ∃ (k : Nat), k ≤ es.length ∧ v = .int .i64 k ∧ Hid (∃ fpk fk, Core wk b m1 m2 fpk to seq L la fk ∧ Laying fk L es (fun e => spotAtI now to (n + 1) e.due) (fun e => spotI to e.due) ((n : Int) + 1, (sl : Int)) k ∧ Sub fpk fp3 w3 ∧ Fr fp3 w3 wk)) (fun v _ => es.length - (intOf v).toNat)
            case atStart => exact ⟨0, Nat.zero_le _, rfl, Lib.hid ⟨fp3, _, HC3.out, HL3.out, Sub.refl _ _, Fr.refl _ _⟩⟩
            case round =>
              obtain ⟨k, hk, rfl, HIn⟩ := hrel
              obtain ⟨fpk, fk, Ck, Lk, Uk, Fk⟩ := HIn.out
              by_cases hltk : k < es.length
              · obtain ⟨g, rfl, hcg⟩ := HCL.out k hltk
                have hcell := Fk.on (HF3.out.on hcg (by simpa using HGM.out g rfl)) (by simpa using HGN.out g rfl)
                have hmem := List.mem_filter.1 (HE1.out.mem_iff.1 (getE_mem hltk))
                have hlay := Ck.lay hmem.1 hlt (HD.out _ hmem.1).2 (by have := Lk.len (spotI to (es.getD k default).due); omega)
                have HLay := Lib.hid hlay
                have HLS := Lib.hid (Lk.step hltk)
                have HUk := Lib.hid Uk
                have HFk := Lib.hid Fk
                clear Ck Lk Uk Fk hcg hmem hlay
                generalize es.getD k default = ek at *
                go_wp2_with fail
                refine HLay.out.mono ?_
                rintro r w5 ⟨rfl, fpk', Ck', Uk', Fk'⟩
                have HN : Hid (∃ fpk fk, Core w5 b m1 m2 fpk to seq L la fk ∧ Laying fk L es (fun e => spotAtI now to (n + 1) e.due) (fun e => spotI to e.due) ((n : Int) + 1, (sl : Int)) (k + 1) ∧ Sub fpk fp3 w3 ∧ Fr fp3 w3 w5) := Lib.hid ⟨fpk', _, Ck', HLS.out, HUk.out.trans Uk' HFk.out.size, HFk.out.sub Fk' HUk.out⟩
                clear Ck' Uk' Fk'
                go_wp2_with fail
                go_roundw
                case rel => exact ⟨k + 1, by omega, by go_num, HN⟩
                case measure => simp [intOf]; omega
              · obtain rfl : k = es.length := by omega
                have HN : Hid (∃ wq, wq = wr ∧ MovedTo w b m1 m2 fp now to seq L la n wq) := Lib.hid (by
                  refine ⟨_, rfl, fpk, fk, Ck, Lk.done HE1.out (fun e he => ?_), HSub3.out.trans Uk (by have := HF3.out.size; have := HF2.out.size; omega), ?_⟩
                  · have hd := (HD.out e he).1
                    have hcc : spotAtI now to (n + 1) e.due = ((n : Int) + 1, (sl : Int)) ↔ spotAt now to (n + 1) e.due = comes to (n + 1) := by
                      rw [← hq]
                      exact pair_inj
                    by_cases hc : spotAt now to (n + 1) e.due = comes to (n + 1)
                    · rw [if_pos (hcc.2 hc)]
                      show spotAtI now to n e.due = spotI to e.due
                      unfold spotAtI spotI
                      rw [spotAt_moved (by omega) hc]
                    · rw [if_neg (fun h => hc (hcc.1 h))]
                      unfold spotAtI
                      rw [spotAt_left hto hd (by omega) hc]
                  · exact (HF2.out.trans' HF3.out (fun x hx => by simp at hx; subst hx; exact HU1.out _ hm2)).trans' Fk (fun x hx => HSub3.out x hx))
                clear Ck Lk Uk Fk HIn
                obtain ⟨wq, hwq, hmv⟩ := HN.out
                subst hwq
                have HN2 := Lib.hid hmv
                clear HN hmv
                go_wp2_with fail
                go_roundw
                case rel => exact ⟨n, by omega, by first | rfl | (congr 1; omega) | go_num, HN2⟩
                case measure => simp [intOf])
end Go.Proofs.Ytibnhfnidgfenaa
