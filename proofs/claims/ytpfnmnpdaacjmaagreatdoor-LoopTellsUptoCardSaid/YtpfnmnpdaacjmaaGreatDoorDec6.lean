/-
  decide.Form: whether a decision has form.
-/
import Derived.Test.YtpfnmnpdaacjmaaGreatDoorDec5
namespace Go.Proofs.YtpfnmnpdaacjmaaGreatDoor
open Go.RowKit

/-- A decision: its list as it reads, and as it lies. -/
structure De where
  k : Int
  o : Int
  n : Int
  t : Int
  l : Sl
def deA (d : De) : Array Value := #[.int .i64 d.k, .int .i64 d.o, .int .i64 d.n, .int .i64 d.t, d.l.v]
theorem deA_size (d : De) : (deA d).size = 5 := rfl
theorem deA_0 (d : De) : (deA d)[0]? = some (.int .i64 d.k) := rfl
theorem deA_1 (d : De) : (deA d)[1]? = some (.int .i64 d.o) := rfl
theorem deA_2 (d : De) : (deA d)[2]? = some (.int .i64 d.n) := rfl
theorem deA_3 (d : De) : (deA d)[3]? = some (.int .i64 d.t) := rfl
theorem deA_4 (d : De) : (deA d)[4]? = some d.l.v := rfl
theorem deA_all (d : De) : (deA d).extract 0 5 = deA d := extract_whole _ _ rfl
theorem deA_ne (d : De) : (deA d = #[]) = False := by simp [deA]
theorem exec_load_de (ρ : Operand → Value) (dst : Option Tmp) (x : Operand) (t : TypeId) (p : String) (af : Array Edge) (g : Option (Nat × Bool)) (W : World) :
    (execOp ρ ⟨dst, .load 36 x, t, p, af, g⟩).run Tryz.prog W = ldOr (ρ x) 5 W (exec0 Tryz.prog ρ ⟨dst, .load 36 x, t, p, af, g⟩ W) :=
  exec_load_row Tryz.underlying36 rfl (by kernel_rfl) ρ dst x t p af g W
attribute [go_sem ↓] exec_load_de
attribute [go_sem] deA_size deA_0 deA_1 deA_2 deA_3 deA_4 deA_all deA_ne
theorem cell_blk {w : World} {g : Nat} {cs : Array Value} {T : TypeId} {fr : Nat × Nat} (h : w.blk g = some (.cells cs T fr)) (i : Nat) : w.cell? ⟨g, i, none⟩ = cs[i]? := by
  unfold World.blk at h
  simp [World.cell?, h]
def hasAsk (k : Nat) (j : Nat) : Bool := (((askOf k).toNat >>> j) % 2 == 1)
def De.part (d : De) (j : Nat) : Bool := match j with | 0 => d.o != 0 | 1 => d.n != 0 | 2 => d.t != 0 | _ => decide (0 < d.l.n)
def formBad (d : De) (k : Nat) : Bool := (List.range 4).any (fun j => d.part j && !hasAsk k j)
def formE (b : Bool) : Int := cond b 2 0
def formErr (d : De) : Int := if d.k < 0 ∨ 7 ≤ d.k then 6 else formE (formBad d d.k.toNat)
theorem askOf_lo (k : Nat) : 0 ≤ askOf k ∧ askOf k < 18446744073709551616 := by unfold askOf; split <;> decide
theorem exec_index_b4 (ρ : Operand → Value) (dst : Option Tmp) (x i : Operand) (t : TypeId) (p : String) (af : Array Edge) (g : Option (Nat × Bool)) (W : World) :
    (execOp ρ ⟨dst, .index 136 x i, t, p, af, g⟩).run Tryz.prog W = idxOr (ρ x) (ρ i) 4 1 false W (exec0 Tryz.prog ρ ⟨dst, .index 136 x i, t, p, af, g⟩ W) :=
  exec_index_row Tryz.underlying136 Tryz.underlying4 rfl (by kernel_rfl) ρ dst x i t p af g W
attribute [go_sem ↓] exec_index_b4
theorem has_ask (k j : Nat) (hj : j < 4) (w : World) : Calls Tryz.prog 78 #[.int .u64 (askOf k), .int .i64 j] w fun r w' => r = .returned (.bool (hasAsk k j)) ∧ w = w' := by
  have h := bits_has (askOf k) j (askOf_lo k).1 (askOf_lo k).2 w
  have hi : inB (j : Int) 64 = true := inB_iff.2 ⟨by omega, by omega⟩
  rw [hi, Bool.true_and, Int.toNat_natCast] at h
  exact h
set_option maxRecDepth 100000 in
set_option maxHeartbeats 1000000 in
theorem dec_form (d : De) (w : World) (hG : Glob w) (h8 : 8 ≤ w.heap.size) :
    Calls Tryz.prog 61 #[.agg (deA d)] w fun e w' => e = .returned (errV (formErr d)) ∧ Below w.heap.size w w' := by
  by_cases hk : d.k < 0 ∨ 7 ≤ d.k
  · have hF : errV (formErr d) = errV 6 := by rw [formErr, if_pos hk]
    rw [hF]
    clear hF
    rcases Int.lt_or_le d.k 0 with h0 | h0
    · go_enter Tryz.func61, Tryz.ntmps61
      go_wp2_with fail
      go_ret
      exact ⟨rfl, below1 _ _⟩
    · have h7 : 7 ≤ d.k := by omega
      go_enter Tryz.func61, Tryz.ntmps61
      go_wp2_with fail
      go_ret
      exact ⟨rfl, below1 _ _⟩
  · obtain ⟨k, hkk⟩ := Int.eq_ofNat_of_zero_le (a := d.k) (by omega)
    have hk7 : k < 7 := by omega
    have hk7i : (k : Int) < 7 := by omega
    have hF : formErr d = formE (formBad d k) := by rw [formErr, if_neg hk, hkk]; rfl
    rw [hF]
    clear hk hF
    go_enter Tryz.func61, Tryz.ntmps61
    go_wp2_with fail
    obtain ⟨b0, hb0⟩ : ∃ b0, (d.o != 0) = b0 := ⟨_, rfl⟩
    obtain ⟨b1, hb1⟩ : ∃ b1, (d.n != 0) = b1 := ⟨_, rfl⟩
    obtain ⟨b2, hb2⟩ : ∃ b2, (d.t != 0) = b2 := ⟨_, rfl⟩
    obtain ⟨b3, hb3⟩ : ∃ b3, decide (0 < d.l.n) = b3 := ⟨_, rfl⟩
    have hp0 : d.part 0 = b0 := hb0
    have hp1 : d.part 1 = b1 := hb1
    have hp2 : d.part 2 = b2 := hb2
    have hp3 : d.part 3 = b3 := hb3
    rw [hb0, hb1, hb2, hb3] at *
    clear hb0 hb1 hb2 hb3
    go_loopw [30] (fun x wr => ∃ j : Nat, j ≤ 4 ∧ x = .int .i64 j ∧ (∀ i, i < j → (d.part i && !hasAsk k i) = false) ∧ Below w.heap.size w wr ∧ Blk wr w.heap.size 36 (deA d)) (fun x _ => 4 - (intOf x).toNat)
    case atStart => exact ⟨0, by omega, rfl, fun i hi => absurd hi (by omega), below2 _ _ _, (Blk.new w 36 (deA d)).below (below1 _ _) (by simp)⟩
    case round =>
      obtain ⟨j, hj, rfl, hal, hq, hbk⟩ := hrel
      obtain ⟨e1, c1, f1⟩ := Blk.all hbk
      have hcell : wr.cell? ⟨3, k, none⟩ = some (.int .u64 (askOf k)) := by
        obtain ⟨C, T, fr, hC, hCj⟩ := (hG.below hq h8).asks
        rw [← hCj k hk7]
        exact cell_blk hC k
      rcases (by omega : j = 0 ∨ j = 1 ∨ j = 2 ∨ j = 3 ∨ j = 4) with rfl | rfl | rfl | rfl | rfl
      · -- part 0
        cases b0
        · have hp := hp0
          go_wp2_with fail
          go_roundw
          case measure => simp [intOf]
          case rel => exact ⟨0 + 1, by omega, rfl, fun i hi => by rcases (by omega : i < 0 ∨ i = 0) with h | rfl; exact hal i h; rw [hp]; rfl, hq, hbk⟩
        · have hp := hp0
          have hA := has_ask k 0 (by decide)
          cases hh : hasAsk k 0
          · rw [hh] at hA
            have hFin : formBad d k = true := List.any_eq_true.2 ⟨0, by simp, by simp [hp, hh]⟩
            have HFin := hide hFin
            clear hFin hal hp hh
            go_wp2_with fail
            refine (hA _).mono ?_
            rintro e w' ⟨rfl, rfl⟩
            clear hA
            go_wp2_with fail
            go_ret
            exact ⟨by rw [unhide HFin]; rfl, hq⟩
          · rw [hh] at hA
            go_wp2_with fail
            refine (hA _).mono ?_
            rintro e w' ⟨rfl, rfl⟩
            clear hA
            go_wp2_with fail
            go_roundw
            case measure => simp [intOf]
            case rel => exact ⟨0 + 1, by omega, rfl, fun i hi => by rcases (by omega : i < 0 ∨ i = 0) with h | rfl; exact hal i h; rw [hh, Bool.not_true, Bool.and_false], hq, hbk⟩
      · -- part 1
        cases b1
        · have hp := hp1
          go_wp2_with fail
          go_roundw
          case measure => simp [intOf]
          case rel => exact ⟨1 + 1, by omega, rfl, fun i hi => by rcases (by omega : i < 1 ∨ i = 1) with h | rfl; exact hal i h; rw [hp]; rfl, hq, hbk⟩
        · have hp := hp1
          have hA := has_ask k 1 (by decide)
          cases hh : hasAsk k 1
          · rw [hh] at hA
            have hFin : formBad d k = true := List.any_eq_true.2 ⟨1, by simp, by simp [hp, hh]⟩
            have HFin := hide hFin
            clear hFin hal hp hh
            go_wp2_with fail
            refine (hA _).mono ?_
            rintro e w' ⟨rfl, rfl⟩
            clear hA
            go_wp2_with fail
            go_ret
            exact ⟨by rw [unhide HFin]; rfl, hq⟩
          · rw [hh] at hA
            go_wp2_with fail
            refine (hA _).mono ?_
            rintro e w' ⟨rfl, rfl⟩
            clear hA
            go_wp2_with fail
            go_roundw
            case measure => simp [intOf]
            case rel => exact ⟨1 + 1, by omega, rfl, fun i hi => by rcases (by omega : i < 1 ∨ i = 1) with h | rfl; exact hal i h; rw [hh, Bool.not_true, Bool.and_false], hq, hbk⟩
      · -- part 2
        cases b2
        · have hp := hp2
          go_wp2_with fail
          go_roundw
          case measure => simp [intOf]
          case rel => exact ⟨2 + 1, by omega, rfl, fun i hi => by rcases (by omega : i < 2 ∨ i = 2) with h | rfl; exact hal i h; rw [hp]; rfl, hq, hbk⟩
        · have hp := hp2
          have hA := has_ask k 2 (by decide)
          cases hh : hasAsk k 2
          · rw [hh] at hA
            have hFin : formBad d k = true := List.any_eq_true.2 ⟨2, by simp, by simp [hp, hh]⟩
            have HFin := hide hFin
            clear hFin hal hp hh
            go_wp2_with fail
            refine (hA _).mono ?_
            rintro e w' ⟨rfl, rfl⟩
            clear hA
            go_wp2_with fail
            go_ret
            exact ⟨by rw [unhide HFin]; rfl, hq⟩
          · rw [hh] at hA
            go_wp2_with fail
            refine (hA _).mono ?_
            rintro e w' ⟨rfl, rfl⟩
            clear hA
            go_wp2_with fail
            go_roundw
            case measure => simp [intOf]
            case rel => exact ⟨2 + 1, by omega, rfl, fun i hi => by rcases (by omega : i < 2 ∨ i = 2) with h | rfl; exact hal i h; rw [hh, Bool.not_true, Bool.and_false], hq, hbk⟩
      · -- part 3
        cases b3
        · have hp := hp3
          go_wp2_with fail
          go_roundw
          case measure => simp [intOf]
          case rel => exact ⟨3 + 1, by omega, rfl, fun i hi => by rcases (by omega : i < 3 ∨ i = 3) with h | rfl; exact hal i h; rw [hp]; rfl, hq, hbk⟩
        · have hp := hp3
          have hA := has_ask k 3 (by decide)
          cases hh : hasAsk k 3
          · rw [hh] at hA
            have hFin : formBad d k = true := List.any_eq_true.2 ⟨3, by simp, by simp [hp, hh]⟩
            have HFin := hide hFin
            clear hFin hal hp hh
            go_wp2_with fail
            refine (hA _).mono ?_
            rintro e w' ⟨rfl, rfl⟩
            clear hA
            go_wp2_with fail
            go_ret
            exact ⟨by rw [unhide HFin]; rfl, hq⟩
          · rw [hh] at hA
            go_wp2_with fail
            refine (hA _).mono ?_
            rintro e w' ⟨rfl, rfl⟩
            clear hA
            go_wp2_with fail
            go_roundw
            case measure => simp [intOf]
            case rel => exact ⟨3 + 1, by omega, rfl, fun i hi => by rcases (by omega : i < 3 ∨ i = 3) with h | rfl; exact hal i h; rw [hh, Bool.not_true, Bool.and_false], hq, hbk⟩
      · have hFin : formBad d k = false := by
          rw [formBad, List.any_eq_false]
          intro i hi
          rw [hal i (List.mem_range.1 hi)]
          simp
        go_wp2_with fail
        go_ret
        exact ⟨by rw [hFin]; rfl, hq⟩
end Go.Proofs.YtpfnmnpdaacjmaaGreatDoor
