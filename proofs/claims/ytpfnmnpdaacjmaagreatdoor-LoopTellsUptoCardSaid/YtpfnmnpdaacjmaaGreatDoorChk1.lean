/-
  state: the bounds of a state's numbers, where an object may stand: the leaves of state.Check.
-/
import Derived.Test.YtpfnmnpdaacjmaaGreatDoorStateCopy
namespace Go.Proofs.YtpfnmnpdaacjmaaGreatDoor
open Go.RowKit

/-- Which parts a kind of decision asks for. -/
def askOf : Nat → Int
  | 0 => 0 | 1 => 5 | 2 => 7 | 3 => 8 | 4 => 8 | 5 => 1 | _ => 2
/-- What the package-level variables hold. -/
structure Glob (w : World) : Prop where
  flag : ∃ C T fr, w.blk (1) = some (.cells C T fr) ∧ 2 ≤ C.size ∧ C.extract 0 2 = #[.int .i64 0, .int .i64 1]
  any : ∃ C T fr, w.blk (2) = some (.cells C T fr) ∧ 2 ≤ C.size ∧ C.extract 0 2 = #[.int .i64 (-1073741824), .int .i64 1073741824]
  rest : ∃ C T fr, w.blk (0) = some (.cells C T fr) ∧ ∀ j : Nat, j < 9 → C[j]? = some (.int .i64 (4 + j))
  rest2 : ∃ C T fr, w.blk (4) = some (.cells C T fr) ∧ ∀ j : Nat, j < 9 → C[j]? = some (.int .i64 (4 + j))
  asks : ∃ C T fr, w.blk (3) = some (.cells C T fr) ∧ ∀ j : Nat, j < 7 → C[j]? = some (.int .u64 (askOf j))
theorem Glob.keep {w w' : World} (h : Glob w) (hk : ∀ k, k < 8 → w'.blk k = w.blk k) : Glob w' := by
  obtain ⟨h1, h2, h3, h4, h5⟩ := h
  exact ⟨by rw [hk _ (by decide)]; exact h1, by rw [hk _ (by decide)]; exact h2, by rw [hk _ (by decide)]; exact h3, by rw [hk _ (by decide)]; exact h4, by rw [hk _ (by decide)]; exact h5⟩
theorem Glob.fr {B : Nat} {w w' : World} (h : Glob w) (hf : Fr B w w') (hB : 8 ≤ B) (hw : B ≤ w.heap.size) : Glob w' := h.keep fun k hk => hf.keep k (by omega) (.inl (by omega))
theorem Glob.below {w w' : World} (h : Glob w) (hf : Below w.heap.size w w') (hw : 8 ≤ w.heap.size) : Glob w' := h.keep fun k hk => hf.block k (by omega)

/-- Simp turns '1 = n + 1' into 'n = 0': facts on the small numbers. -/
theorem glob_sm {w : World} (h : 8 ≤ w.heap.size) : ((w.heap.size = 0) = False ∧ (w.heap.size = 1) = False ∧ (w.heap.size = 2) = False ∧ (w.heap.size = 3) = False) ∧ (0 = w.heap.size) = False ∧ (1 = w.heap.size) = False ∧ (2 = w.heap.size) = False ∧ (3 = w.heap.size) = False := by
  refine ⟨⟨?_, ?_, ?_, ?_⟩, ?_, ?_, ?_, ?_⟩ <;> exact eq_false (by omega)
theorem glob_ne {w : World} (h : 8 ≤ w.heap.size) (g : Nat) (hg : g < 8) : (g = w.heap.size) = False ∧ ∀ k, (g = w.heap.size + k) = False := ⟨by simp; omega, fun k => by simp; omega⟩
def hasB (b : Int × Int) (n : Int) : Bool := decide (b.1 ≤ n) && decide (n ≤ b.2)
set_option maxHeartbeats 400000 in
theorem bound_has (a b n : Int) (w : World) : Calls Tryz.prog 41 #[.agg #[.int .i64 a, .int .i64 b], .int .i64 n] w fun e w' => e = .returned (.bool (hasB (a, b) n)) ∧ Below w.heap.size w w' := by
  go_enter Tryz.func41, Tryz.ntmps41
  go_wp2
  all_goals
    go_ret
    refine ⟨?_, (Below.refl _ _).alloc (Nat.le_refl _) _⟩
    simp [hasB, *]
    try omega

def objBd (many : Int) : Nat → Int × Int := fun f => match f with
  | 0 => (0, 119) | 3 => (0, 10) | 6 => (0, 1073741824) | 7 => (0, 1073741824) | 8 => (-1073741824, 1073741824) | 9 => (-1073741824, 1073741824) | 10 => (0, 255)
  | 12 => (0, many) | 13 => (0, 2) | 14 => (0, 3) | 15 => (0, many) | 16 => (-2, many) | 17 => (0, 3) | _ => (0, 1)
def plBd : Nat → Int × Int := fun f => match f with | 0 => (-1073741824, 1073741824) | 7 => (0, 1) | 8 => (0, 1) | _ => (0, 1000)
def gmBd : Nat → Int × Int := fun f => match f with | 0 => (0, 1073741824) | 2 => (0, 7) | 5 => (0, 4096) | 6 => (0, 3) | _ => (0, 1)

set_option maxHeartbeats 400000 in
theorem st_game (w : World) (hG : Glob w) (h8 : 8 ≤ w.heap.size) : Calls Tryz.prog 43 #[] w fun e w' => e = .returned (.agg (bdA 7 gmBd)) ∧ Below w.heap.size w w' := by
  obtain ⟨C, T, fr, hg, hs, hx⟩ := hG.flag
  obtain ⟨⟨m1, m2, m3, m4⟩, m5, m6, m7, m8⟩ := glob_sm h8
  obtain ⟨n1, n2⟩ := glob_ne h8 1 (by decide)
  go_enter Tryz.func43, Tryz.ntmps43
  go_wp2
  refine ret_cell rfl rfl (heap_alloc_new w _) Tryz.underlying100 rfl (by kernel_rfl) rfl ?_
  exact ⟨rfl, (Below.refl _ _).alloc (Nat.le_refl _) _⟩
set_option maxHeartbeats 400000 in
theorem st_objects (n : Int) (w : World) (hG : Glob w) (h8 : 8 ≤ w.heap.size) : Calls Tryz.prog 40 #[.int .i64 n] w fun e w' => e = .returned (.agg (bdA 18 (objBd n))) ∧ Below w.heap.size w w' := by
  obtain ⟨C, T, fr, hg, hs, hx⟩ := hG.flag
  obtain ⟨⟨m1, m2, m3, m4⟩, m5, m6, m7, m8⟩ := glob_sm h8
  obtain ⟨n1, n2⟩ := glob_ne h8 1 (by decide)
  obtain ⟨C2, T2, fr2, hg2, hs2, hx2⟩ := hG.any
  obtain ⟨n3, n4⟩ := glob_ne h8 2 (by decide)
  go_enter Tryz.func40, Tryz.ntmps40
  go_wp2
  refine ret_cell rfl rfl (heap_alloc2_old w _ _) Tryz.underlying95 rfl (by kernel_rfl) rfl ?_
  exact ⟨rfl, ((Below.refl _ _).alloc (Nat.le_refl _) _).alloc (by simp) _⟩
def side (z : Int) : Int × Int × Bool := if z < 0 ∨ 11 ≤ z then (0, 0, false) else if z < 8 then (2 * (z / 2), z % 2, true) else (z, 0, false)
set_option maxHeartbeats 400000 in
theorem st_side (z : Int) (w : World) : Calls Tryz.prog 58 #[.int .i64 z] w fun e w' => e = .returned (.tuple #[.int .i64 (side z).1, .int .i64 (side z).2.1, .bool (side z).2.2]) ∧ w = w' := by
  by_cases h1 : z < 0 ∨ 11 ≤ z
  · have hs : side z = (0, 0, false) := by unfold side; rw [if_pos h1]
    rw [hs]
    rcases h1 with h1 | h1
    all_goals
      go_enter Tryz.func58, Tryz.ntmps58
      go_wp2
      all_goals (go_ret3; exact ⟨rfl, rfl⟩)
  · by_cases h2 : z < 8
    · rcases (by omega : z = 0 ∨ z = 1 ∨ z = 2 ∨ z = 3 ∨ z = 4 ∨ z = 5 ∨ z = 6 ∨ z = 7) with rfl | rfl | rfl | rfl | rfl | rfl | rfl | rfl
      all_goals
        clear h1 h2
        go_enter Tryz.func58, Tryz.ntmps58
        go_wp2
        all_goals (go_ret3; exact ⟨rfl, rfl⟩)
    · have hs : side z = (z, 0, false) := by unfold side; rw [if_neg h1, if_neg h2]
      rw [hs]
      have h3 : 0 ≤ z := by omega
      have h4 : z < 11 := by omega
      have h5 : 8 ≤ z := by omega
      clear h1 h2
      go_enter Tryz.func58, Tryz.ntmps58
      go_wp2
      all_goals (go_ret3; exact ⟨rfl, rfl⟩)

def stands (o : Ob) (z : Int) : Bool := if (side z).2.2 then (o 1 == (side z).2.1) && (o 13 == 0) else if z == 8 then o 13 != 2 else true
set_option maxHeartbeats 400000 in
theorem st_stands (o : Ob) (z : Int) (w : World) : Calls Tryz.prog 44 #[.agg (obA o), .int .i64 z] w fun e w' => e = .returned (.bool (stands o z)) ∧ Below w.heap.size w w' := by
  go_enter Tryz.func44, Tryz.ntmps44
  go_wp2_with (go_at_call 58; refine (st_side _ _).mono ?_; rintro e w' ⟨rfl, rfl⟩)
  all_goals
    go_ret
    refine ⟨?_, (Below.refl _ _).alloc (Nat.le_refl _) _⟩
    simp [stands, *]
def PlRel (w : World) (k : Nat) (wr : World) : Prop :=
  ∃ b : Nat → Int × Int, Blk wr w.heap.size 98 (bdA 9 fun _ => (0, 0)) ∧ Blk wr (w.heap.size + 1) 98 (bdA 9 b) ∧ (∀ f, f < k → b f = (0, 1000)) ∧ Below w.heap.size w wr
set_option maxHeartbeats 1000000 in
theorem st_players (w : World) (hG : Glob w) (h8 : 8 ≤ w.heap.size) : Calls Tryz.prog 42 #[] w fun e w' => e = .returned (.agg (bdA 9 plBd)) ∧ Below w.heap.size w w' := by
  obtain ⟨C, T, fr, hg, hs, hx⟩ := hG.flag
  obtain ⟨⟨m1, m2, m3, m4⟩, m5, m6, m7, m8⟩ := glob_sm h8
  obtain ⟨n1, n2⟩ := glob_ne h8 1 (by decide)
  obtain ⟨C2, T2, fr2, hg2, hs2, hx2⟩ := hG.any
  obtain ⟨n3, n4⟩ := glob_ne h8 2 (by decide)
  go_enter Tryz.func42, Tryz.ntmps42
  go_wp2
  go_loopw [3] (fun i wr => ∃ k : Nat, k ≤ 9 ∧ i = .int .i64 k ∧ PlRel w k wr) (fun i _ => 9 - (intOf i).toNat)
  case atStart =>
    refine ⟨0, by omega, rfl, fun _ => (0, 0), ?_, ?_, fun f hf => absurd hf (by omega), ((Below.refl _ _).alloc (Nat.le_refl _) _).alloc (by simp) _⟩
    · exact heap_alloc2_old w _ _
    · exact heap_alloc2_new w _ _
  case round =>
    obtain ⟨k, hk, rfl, b, hb1, hb2, hb, hB⟩ := hrel
    obtain ⟨e1, c1, f1⟩ := Blk.all hb1
    obtain ⟨e2, c2, f2⟩ := Blk.all hb2
    by_cases hlt : k < 9
    · have hset := bdA_set' 9 k b 0 1000 hlt
      go_wp2
      go_roundw
      case measure => simp [intOf]; omega
      case rel =>
        refine ⟨k + 1, by omega, by go_num, _, Blk.setRow_far hb1 (by omega) _, Blk.setRow hb2 _, fun f hf => ?_, below_setRow hB (by omega) _⟩
        by_cases hfk : f = k
        · subst hfk; exact upd_same _ _ _
        · rw [upd_other _ _ _ _ hfk]; exact hb f (by omega)
    · have Hb := hide hb
      clear hb
      have n5 : ¬ (1 = w.heap.size) := by omega
      have g1 : wr.blk 1 = some (.cells C T fr) := (hB.block _ (by omega)).trans hg
      have g2 : wr.blk 2 = some (.cells C2 T2 fr2) := (hB.block _ (by omega)).trans hg2
      have s0 := fun b : Nat → Int × Int => bdA_set 9 0 b (-1073741824) 1073741824 (by omega)
      have s7 := fun b : Nat → Int × Int => bdA_set 9 7 b 0 1 (by omega)
      have s8 := fun b : Nat → Int × Int => bdA_set 9 8 b 0 1 (by omega)
      simp only [Nat.mul_zero, Nat.reduceMul] at s0 s7 s8
      clear hg hg2
      go_wp2
      go_region
      go_wp2
      refine ret_cell rfl rfl (setRow_heap _ _ _ _ _ _ ((setRow_other _ _ _ _ (by omega)).trans hb1)) Tryz.underlying98 rfl (by kernel_rfl) rfl ?_
      refine ⟨?_, below_setRow (below_setRow hB.drew (by omega) _) (by omega) _⟩
      have e : ∀ x, bdA 9 x = (bdL 9 x).toArray := fun _ => rfl
      rw [e, e, bdL_congr 9 _ plBd]
      intro j hj
      rcases (by omega : j = 0 ∨ j = 1 ∨ j = 2 ∨ j = 3 ∨ j = 4 ∨ j = 5 ∨ j = 6 ∨ j = 7 ∨ j = 8) with rfl | rfl | rfl | rfl | rfl | rfl | rfl | rfl | rfl <;> simp [upd, plBd] <;> exact unhide Hb _ (by omega)
end Go.Proofs.YtpfnmnpdaacjmaaGreatDoor
