/-
  of and lay.
-/
import Derived.Test.YtibnhfnidgfenaaWheel
import Derived.Deep.RegionHeld3
import Derived.Maps.AppendAt
namespace Go.Proofs.Ytibnhfnidgfenaa
open Go.RowKit

variable {w : World} {b m1 m2 : Nat} {fp : List Nat} {now seq : Nat} {L : List Ent} {la : List ((Int × Int) × Value)} {f : Int × Int → List Nat}

theorem spotI_far {now due : Nat} (h : lvl now due = 4) : spotI now due = (4, 0) := by
  unfold spotI; rw [spot_far.2 h]; rfl
theorem spotI_near {now due : Nat} (h : lvl now due < 4) : spotI now due = ((lvl now due : Int), (slot due (lvl now due) : Int)) := by
  unfold spotI; rw [spot_fst, spot_snd _ _ h]

set_option maxHeartbeats 1000000 in
theorem of_spec {w : World} {b now due : Nat} (hc : w.cell? ⟨b, 0, none⟩ = some (.int .u64 now)) (hn : now < 18446744073709551616) (hd : due < 18446744073709551616) :
    Calls Try.prog 54 #[.pointer (some ⟨b, 0, none⟩), .int .u64 due] w fun e w' => e = .returned (.agg #[.int .i64 (spotI now due).1, .int .i64 (spotI now due).2]) ∧ Fr [] w w' := by
  have hc' := ((Fr.refl [] w).alloc (.cells #[.int .i64 0, .int .i64 0] 103)).cell (p := ⟨b, 0, none⟩) (World.block_lt_of_cell? _ _ hc) (by simp) |>.trans hc
  have HL := Lib.hid (fun w => level_spec w now due hn hd)
  have HF := Lib.hid ((Fr.refl [] w).alloc (.cells #[.int .i64 0, .int .i64 0] 103))
  have HS := Lib.hid (fun w (n : Nat) (h : n ≤ 5) => slot_spec w due n h hd)
  by_cases h4 : lvl now due = 4
  · rw [h4] at HL
    rw [spotI_far h4]
    go_enter Try.func54, Try.ntmps54
    go_wp2_with fail
    refine (HL.out _).mono ?_
    rintro e w1 ⟨rfl, rfl⟩
    go_wp2_with fail
    exact bodyPost_ret (v := .agg #[.int .i64 4, .int .i64 0]) (by simp [results, Try.results54, go_sem]) rfl ⟨rfl, (Fr.refl _ _).alloc _⟩
  · have hlt : lvl now due < 4 := by have := lvl_le now due; omega
    rw [spotI_near hlt]
    generalize lvl now due = n at *
    have hne : ((n : Int) == 4) = false := by simpa using fun h => h4 (by omega)
    have HSn := Lib.hid (fun w => HS.out w n (by omega))
    generalize slot due n = s at *
    clear h4 HS
    go_enter Try.func54, Try.ntmps54
    go_wp2_with fail
    refine (HL.out _).mono ?_
    rintro e w1 ⟨rfl, rfl⟩
    go_wp2_with fail
    refine (HSn.out _).mono ?_
    rintro e w2 ⟨rfl, rfl⟩
    go_wp2_with fail
    exact bodyPost_ret (v := .agg #[.int .i64 n, .int .i64 s]) (by simp [results, Try.results54, go_sem]) rfl ⟨rfl, (Fr.refl _ _).alloc _⟩

/-- append onto an owned slice, inside a region that draws its order; and where the new slice lies. -/
theorem step_app_at {P : Program} {ops : Array Oper} {o : Oper} {a : Act} {w : World} {K : Act → World → Prop} {Q : Exit → Act → World → Prop} {E : Prop} (hg : o.guard = none)
    (s x : Operand) (t : TypeId) (hop : o.op = Op.call { callee := Callee.builtin Builtin.append, args := #[s, x], argTypes := #[t, t] })
    (base : Nat) (e : TypeId) (i : TypeInfo) (z : Value) (size bytes : Nat) (ht : P.underlying t = some (.slice e)) (hi : P.info? e = some i) (hz : i.zero = some z)
    (hsize : i.size = size) (hby : i.bytes = bytes) (hzs : z.cells.size = size) (hsz : 0 < size)
    (v : Value) (n : Nat) (xs : List Value) (hs : a.eval s = v) (hown : w.ownsRow base e size v n xs) (ad : Addr) (m c : Nat) (news : List Value) (hy : a.eval x = .slice (some ad) m c) (hl : news.length = m * size) (hnews : ∀ j u, news[j]? = some u → w.cell? (ad.add j) = some u) (h1 : ∀ u ∈ news, u.oneCell' = true)
    (h63 : n + m ≤ maxLen) (hbytes : (n + m) * bytes ≤ 140737488355328) (hbase : base ≤ w.heap.size)
    (hK : ∀ v' w', w'.ownsRow base e size v' (n + m) (xs ++ news) → w.grownBy w' v.ownBlock → (v'.ownBlock = v.ownBlock ∨ v'.ownBlock = some w.heap.size) → K (a.put o.dst v') w') :
    if Region.wanted o (yielded ops a.tmps) = true then Oper.wp P o a w K Q else E := by
  have hw : Region.wanted o (yielded ops a.tmps) = true := by simp [Region.wanted, hg]
  rw [if_pos hw]
  obtain ⟨v', w', hr, h2, h3, h4, h5⟩ := run_append_own_at (P := P) w base t o.type e i z size bytes ht hi hz hsize hby hzs hsz v n xs hown ad m c news hl hnews h1 h63 hbytes hbase
  unfold Oper.wp execOp
  simp only [hop, resolve, invoke, builtin, Sem.run_bind, Sem.run_pure, Result.andThen_ok, List.map_toArray, List.map_cons, List.map_nil, hs, hy, hr]
  exact hK v' w' h2 h3 h5

theorem keyPlace : KeyOk Try.prog 103 enc2 := keyOk_2 Try.underlying103 Try.underlying3 rfl rfl rfl rfl (by decide +kernel) (by decide +kernel) (by kernel_rfl)
theorem keyTimer : KeyOk Try.prog 31 enc2 := keyOk_2 Try.underlying31 Try.underlying3 rfl rfl rfl rfl (by decide +kernel) (by decide +kernel) (by kernel_rfl)
theorem zeroRow (w : World) : (zeroValue 105).run Try.prog w = .ok (.slice none 0 0) w := by kernel_rfl
theorem zeroEnt (w : World) : (zeroValue 82).run Try.prog w = .ok (.pointer none) w := by kernel_rfl
theorem Try.info_ent : (Try.prog.info? 82).map (fun i => (i.zero, i.size, i.bytes)) = some (some (.pointer none), 1, 8) := by kernel_rfl
end Go.Proofs.Ytibnhfnidgfenaa
