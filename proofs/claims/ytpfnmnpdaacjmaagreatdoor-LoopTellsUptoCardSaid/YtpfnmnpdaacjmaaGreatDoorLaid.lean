/-
  What the row's list of package variables gives.
-/
import Derived.Test.YtpfnmnpdaacjmaaGreatDoorOpen
import Derived.Lib.LaidTab
import Derived.Stop.LaidErr
namespace Go.Proofs.YtpfnmnpdaacjmaaGreatDoor
open Go.ChangeShapes Go.WideShapes Go.Deep Go.RowKit

theorem g_any : Tryz.prog.globalNamed "mulligan/state.any" = some 2 := by kernel_rfl
theorem g_flag : Tryz.prog.globalNamed "mulligan/state.flag" = some 1 := by kernel_rfl
theorem g_rest : Tryz.prog.globalNamed "mulligan/state.resting" = some 0 := by kernel_rfl
theorem g_rest2 : Tryz.prog.globalNamed "mulligan/emit.resting" = some 4 := by kernel_rfl
theorem g_asks : Tryz.prog.globalNamed "mulligan/decide.asks" = some 3 := by kernel_rfl
theorem gt_any : (Tryz.prog.globals[2]?).map (·.type) = some 94 := by kernel_rfl
theorem gt_flag : (Tryz.prog.globals[1]?).map (·.type) = some 94 := by kernel_rfl
theorem gt_rest : (Tryz.prog.globals[0]?).map (·.type) = some 40 := by kernel_rfl
theorem gt_rest2 : (Tryz.prog.globals[4]?).map (·.type) = some 40 := by kernel_rfl
theorem gt_asks : (Tryz.prog.globals[3]?).map (·.type) = some 139 := by kernel_rfl
set_option maxRecDepth 100000 in
/-- A pair of numbers that reads so holds them. -/
theorem cells_of_bound {H : Type} {enc : TypeId × Value → H} {w : World} {base : Nat} {sp : Nat → Bool} {held : Bool} {fuel : Nat} {cs : List Value} {a b : Int} {p : List MemPlace}
    (h : DataW.trod enc Tryz.prog w base sp held fuel 94 cs = some (.agg [.lit (.int .i64 a), .lit (.int .i64 b)], p)) : cs = [.int .i64 a, .int .i64 b] := by
  obtain ⟨xs, n, _, hx, hlen, hxl, hf⟩ := DataW.trod_struct Tryz.underlying94 h
  have h0 := hf 0 _ rfl
  have h1 := hf 1 _ rfl
  have hc : Tryz.prog.cellsOf 94 = 2 := by kernel_rfl
  rw [hc] at hlen
  match cs, hlen with
  | [c0, c1], _ =>
    match xs, hxl with
    | [y0, y1], _ =>
      simp only [Prod.mk.injEq, DataW.agg.injEq, List.map_cons, List.map_nil, List.cons.injEq, and_true] at hx
      have e0 : DataW.trod enc Tryz.prog w base sp held n 3 [c0] = some y0 := h0
      have e1 : DataW.trod enc Tryz.prog w base sp held n 3 [c1] = some y1 := h1
      obtain ⟨z0, q0, r0, _⟩ := DataW.trod_int Tryz.underlying3 e0
      obtain ⟨z1, q1, r1, _⟩ := DataW.trod_int Tryz.underlying3 e1
      rw [r0] at hx
      rw [r1] at hx
      simp at hx q0 q1
      rw [q0, q1, hx.1.1, hx.1.2]
theorem bound_of_head {W : World} {name : String} {a b : Int} {rest : List (String × DataW Unit)} {g : Nat} (hg : Tryz.prog.globalNamed name = some g) (hty : (Tryz.prog.globals[g]?).map (·.type) = some 94)
    (h : laidMet Tryz.prog ((name, .agg [.lit (.int .i64 a), .lit (.int .i64 b)]) :: rest) W) : W.var? Tryz.prog name = some #[.int .i64 a, .int .i64 b] := by
  obtain ⟨ps, ⟨g', t', cs, fuel, p, q, hg', ht', hvar, hd, _, _⟩, _⟩ := h
  obtain rfl := Option.some.inj (hg.symm.trans hg')
  obtain rfl := Option.some.inj (hty.symm.trans ht')
  have hcs := cells_of_bound hd
  rw [hvar]
  exact congrArg some (Array.ext' hcs)
theorem var_blk {W : World} {name : String} {g : Nat} {cs : Array Value} (hg : Tryz.prog.globalNamed name = some g) (h : W.var? Tryz.prog name = some cs) : ∃ T fr, W.blk g = some (.cells cs T fr) := by
  simp only [World.var?, hg, Option.bind_some] at h
  unfold World.blk
  split at h
  · rename_i cs' T fr hb
    injection h with h
    subst h
    exact ⟨T, fr, hb⟩
  · cases h
theorem rest_cells {W : World} {name : String} {g : Nat} (hg : Tryz.prog.globalNamed name = some g) (h : Lib.TabIs Tryz.prog W name .i64 [4, 5, 6, 7, 8, 9, 10, 11, 12]) : ∃ C T fr, W.blk g = some (.cells C T fr) ∧ ∀ j : Nat, j < 9 → C[j]? = some (.int .i64 (4 + j)) := by
  obtain ⟨T, fr, hb⟩ := var_blk hg h
  refine ⟨_, T, fr, hb, fun j hj => ?_⟩
  rcases (by omega : j = 0 ∨ j = 1 ∨ j = 2 ∨ j = 3 ∨ j = 4 ∨ j = 5 ∨ j = 6 ∨ j = 7 ∨ j = 8) with rfl | rfl | rfl | rfl | rfl | rfl | rfl | rfl | rfl <;> rfl
theorem glob_of_laid {W : World} (h : laidMet Tryz.prog Rows.loopTellsRow.laid W) : Glob W := by
  have h1 := bound_of_head g_any gt_any h
  have h2 := bound_of_head g_flag gt_flag h.tail
  have h3 := Lib.tabIs_of_head (k := .i64) (zs := [4, 5, 6, 7, 8, 9, 10, 11, 12]) g_rest gt_rest Tryz.underlying40 Tryz.underlying3 (by kernel_rfl) (by kernel_rfl) h.tail.tail
  have h4 := Lib.tabIs_of_head (k := .i64) (zs := [4, 5, 6, 7, 8, 9, 10, 11, 12]) g_rest2 gt_rest2 Tryz.underlying40 Tryz.underlying3 (by kernel_rfl) (by kernel_rfl) h.tail.tail.tail
  have h5 := Lib.tabIs_of_head (k := .u64) (zs := [0, 5, 7, 8, 8, 1, 2]) g_asks gt_asks Tryz.underlying139 Tryz.underlying138 (by kernel_rfl) (by kernel_rfl) h.tail.tail.tail.tail
  obtain ⟨T1, fr1, hb1⟩ := var_blk g_any h1
  obtain ⟨T2, fr2, hb2⟩ := var_blk g_flag h2
  obtain ⟨T5, fr5, hb5⟩ := var_blk g_asks h5
  refine ⟨⟨_, T2, fr2, hb2, by simp, by simp⟩, ⟨_, T1, fr1, hb1, by simp, by simp⟩, rest_cells g_rest h3, rest_cells g_rest2 h4, ⟨_, T5, fr5, hb5, fun j hj => ?_⟩⟩
  rcases (by omega : j = 0 ∨ j = 1 ∨ j = 2 ∨ j = 3 ∨ j = 4 ∨ j = 5 ∨ j = 6) with rfl | rfl | rfl | rfl | rfl | rfl | rfl <;> rfl
theorem blk_lt {W : World} {g : Nat} {o : Obj} (h : W.blk g = some o) : g < W.heap.size := lt_of_blk h
theorem glob_size {W : World} (h : Glob W) : gTop ≤ W.heap.size ∧ 5 ≤ W.heap.size := by
  obtain ⟨_, _, _, h1, _⟩ := h.flag
  obtain ⟨_, _, _, h2, _⟩ := h.any
  obtain ⟨_, _, _, h3, _⟩ := h.rest
  obtain ⟨_, _, _, h4, _⟩ := h.rest2
  obtain ⟨_, _, _, h5, _⟩ := h.asks
  have h1 := blk_lt h1
  have h2 := blk_lt h2
  have h3 := blk_lt h3
  have h4 := blk_lt h4
  have h5 := blk_lt h5
  refine ⟨?_, by omega⟩
  show ([1, 2, 0, 4, 3] : List Nat).foldl max 0 + 1 ≤ W.heap.size
  simp only [List.foldl_cons, List.foldl_nil]
  omega
end Go.Proofs.YtpfnmnpdaacjmaaGreatDoor
