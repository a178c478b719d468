/-
  decide: the leaves.
-/
import Derived.Test.YtpfnmnpdaacjmaaGreatDoorEmit5
namespace Go.Proofs.YtpfnmnpdaacjmaaGreatDoor
open Go.RowKit

/-! A field of a struct by value. -/
def fieldOr (v : Value) (off sz : Nat) (ag : Bool) (W : World) (e : Result Next) : Result Next :=
  match v with
  | .agg cs => if ag then .ok (.value (.agg (cs.extract off (off + sz)))) W else match cs[off]? with | some u => .ok (.value u) W | none => e
  | _ => e
theorem exec_field {P : Program} {T E : TypeId} {i off sz : Nat} {ag : Bool} {d : TypeDesc} {fields : Array Field} (hu : P.underlying T = some (.struct fields)) (hf : (fields[i]?).map (fun f => (f.type, f.offset)) = some (E, off))
    (hE : P.underlying E = some d) (hd : d.isRow = ag) (hs : (P.info? E).map (·.size) = some sz)
    (ρ : Operand → Value) (dst : Option Tmp) (x : Operand) (t : TypeId) (p : String) (af : Array Edge) (g : Option (Nat × Bool)) (W : World) :
    (execOp ρ ⟨dst, .field T x i, t, p, af, g⟩).run P W = fieldOr (ρ x) off sz ag W (exec0 P ρ ⟨dst, .field T x i, t, p, af, g⟩ W) := by
  unfold fieldOr exec0
  split
  · rename_i cs hx
    cases hq : P.info? E with
    | none => simp [hq] at hs
    | some inf =>
      have hs' : inf.size = sz := by simpa [hq] using hs
      have hagg : (isAgg E).run P W = .ok ag W := by
        unfold isAgg
        rw [Sem.run_bind, run_underlying hE W]
        subst hd
        cases d <;> rfl
      cases hff : fields[i]? with
      | none => simp [hff] at hf
      | some f =>
        simp only [hff, Option.map_some, Option.some.injEq, Prod.mk.injEq] at hf
        obtain ⟨h1, h2⟩ := hf
        cases ag with
        | true => simp [execOp, hx, Instr.field, run_underlying hu, hff, asAgg, part, h1, h2, hagg, sizeOf, typeInfo, hq, hs']
        | false =>
          simp only [Bool.false_eq_true, if_false]
          split
          · rename_i u hu'
            simp [execOp, hx, Instr.field, run_underlying hu, hff, asAgg, part, h1, h2, hagg, sizeOf, typeInfo, hq, hs', hu']
          · rfl
  · rfl
theorem fieldOr_agg (cs : Array Value) (off sz : Nat) (ag : Bool) (W : World) (e : Result Next) : fieldOr (.agg cs) off sz ag W e = if ag then .ok (.value (.agg (cs.extract off (off + sz)))) W else match cs[off]? with | some u => .ok (.value u) W | none => e := rfl
theorem exec_field_st0 (ρ : Operand → Value) (dst : Option Tmp) (x : Operand) (t : TypeId) (p : String) (af : Array Edge) (g : Option (Nat × Bool)) (W : World) :
    (execOp ρ ⟨dst, .field 44 x 0, t, p, af, g⟩).run Tryz.prog W = fieldOr (ρ x) 0 1 false W (exec0 Tryz.prog ρ ⟨dst, .field 44 x 0, t, p, af, g⟩ W) :=
  exec_field (E := 38) Tryz.underlying44 (by kernel_rfl) Tryz.underlying38 rfl (by kernel_rfl) ρ dst x t p af g W
theorem exec_field_st1 (ρ : Operand → Value) (dst : Option Tmp) (x : Operand) (t : TypeId) (p : String) (af : Array Edge) (g : Option (Nat × Bool)) (W : World) :
    (execOp ρ ⟨dst, .field 44 x 1, t, p, af, g⟩).run Tryz.prog W = fieldOr (ρ x) 1 11 true W (exec0 Tryz.prog ρ ⟨dst, .field 44 x 1, t, p, af, g⟩ W) :=
  exec_field (E := 39) Tryz.underlying44 (by kernel_rfl) Tryz.underlying39 rfl (by kernel_rfl) ρ dst x t p af g W
theorem exec_field_st2 (ρ : Operand → Value) (dst : Option Tmp) (x : Operand) (t : TypeId) (p : String) (af : Array Edge) (g : Option (Nat × Bool)) (W : World) :
    (execOp ρ ⟨dst, .field 44 x 2, t, p, af, g⟩).run Tryz.prog W = fieldOr (ρ x) 12 18 true W (exec0 Tryz.prog ρ ⟨dst, .field 44 x 2, t, p, af, g⟩ W) :=
  exec_field (E := 41) Tryz.underlying44 (by kernel_rfl) Tryz.underlying41 rfl (by kernel_rfl) ρ dst x t p af g W
theorem exec_field_st3 (ρ : Operand → Value) (dst : Option Tmp) (x : Operand) (t : TypeId) (p : String) (af : Array Edge) (g : Option (Nat × Bool)) (W : World) :
    (execOp ρ ⟨dst, .field 44 x 3, t, p, af, g⟩).run Tryz.prog W = fieldOr (ρ x) 30 7 true W (exec0 Tryz.prog ρ ⟨dst, .field 44 x 3, t, p, af, g⟩ W) :=
  exec_field (E := 42) Tryz.underlying44 (by kernel_rfl) Tryz.underlying42 rfl (by kernel_rfl) ρ dst x t p af g W
theorem gmA_i (S : Nat → Int) : (gmA S)[0]? = some (.int .i64 (S 0)) ∧ (gmA S)[1]? = some (.int .i64 (S 1)) ∧ (gmA S)[2]? = some (.int .i64 (S 2)) ∧ (gmA S)[3]? = some (.int .i64 (S 3)) ∧ (gmA S)[4]? = some (.int .i64 (S 4)) ∧ (gmA S)[5]? = some (.int .i64 (S 5)) ∧ (gmA S)[6]? = some (.int .i64 (S 6)) := ⟨rfl, rfl, rfl, rfl, rfl, rfl, rfl⟩
attribute [go_sem ↓] exec_field_st0 exec_field_st1 exec_field_st2 exec_field_st3
attribute [go_sem] fieldOr_agg gmA_i
set_option maxHeartbeats 400000 in
theorem bits_in (n : Int) (w : World) : Calls Tryz.prog 105 #[.int .i64 n] w fun r w' => r = .returned (.bool (inB n 64)) ∧ w = w' := by
  go_enter Tryz.func105, Tryz.ntmps105
  go_wp2
  all_goals
    go_ret
    simp [inB, *]
    try omega
set_option maxHeartbeats 400000 in
theorem foe_ (n : Int) (w : World) : Calls Tryz.prog 81 #[.int .i64 n] w fun r w' => r = .returned (.int .i64 (if n = 0 ∨ n = 1 then 1 - n else -1)) ∧ w = w' := by
  by_cases h0 : n = 0
  · subst h0
    go_enter Tryz.func81, Tryz.ntmps81
    go_wp2
    go_ret
    exact ⟨rfl, rfl⟩
  · by_cases h1 : n = 1
    · subst h1
      go_enter Tryz.func81, Tryz.ntmps81
      go_wp2
      go_ret
      exact ⟨rfl, rfl⟩
    · have hb0 : (n == 0) = false := by simpa using h0
      have hb1 : (n != 1) = true := by simpa using h1
      have hb2 : (n != 0) = true := by simpa using h0
      rw [if_neg (by omega)]
      clear h0 h1
      go_enter Tryz.func81, Tryz.ntmps81
      go_wp2_with fail
      go_ret
      exact ⟨rfl, rfl⟩
theorem bits_and1 (N : Nat) : bits .and .u64 (N : Int) 1 = ((N % 2 : Nat) : Int) := by
  have h : ((BitVec.ofInt 64 (N : Int)) &&& (BitVec.ofInt 64 1)).toNat = N % 2 := by
    rw [BitVec.toNat_and]
    have h1 : (BitVec.ofInt 64 (N : Int)).toNat = N % 2 ^ 64 := by rw [BitVec.ofInt_natCast, BitVec.toNat_ofNat]
    rw [h1, show (BitVec.ofInt 64 1).toNat = 1 from rfl, Nat.and_one_is_mod]
    omega
  unfold bits
  show IntKind.u64.wrap (((BitVec.ofInt 64 (N : Int)) &&& (BitVec.ofInt 64 1)).toNat : Int) = _
  rw [h]
  rcases Nat.mod_two_eq_zero_or_one N with h2 | h2 <;> rw [h2] <;> rfl
set_option maxHeartbeats 400000 in
theorem bits_has (s i : Int) (hs : 0 ≤ s) (hs2 : s < 18446744073709551616) (w : World) : Calls Tryz.prog 78 #[.int .u64 s, .int .i64 i] w fun r w' => r = .returned (.bool (inB i 64 && (s.toNat >>> i.toNat) % 2 == 1)) ∧ w = w' := by
  cases hi : inB i 64
  · go_enter Tryz.func78, Tryz.ntmps78
    go_wp2_with fail
    refine (bits_in _ _).mono ?_
    rintro e w' ⟨rfl, rfl⟩
    go_wp2_with fail
    go_ret
    exact ⟨rfl, rfl⟩
  · have hk := inB_iff.1 hi
    obtain ⟨k, rfl⟩ := Int.eq_ofNat_of_zero_le hk.1
    have hk64 : k < 64 := by omega
    have hk0 : (k : Int) < 64 := hk.2
    go_enter Tryz.func78, Tryz.ntmps78
    go_wp2_with fail
    refine (bits_in _ _).mono ?_
    rintro e w' ⟨rfl, rfl⟩
    go_wp2_with fail
    go_ret
    obtain ⟨S, rfl⟩ := Int.eq_ofNat_of_zero_le hs
    have hd : (S : Int) / 2 ^ k = ((S / 2 ^ k : Nat) : Int) := by simp
    have hr : (bits .and .u64 ((S : Int) / 2 ^ k) 1 == 1) = (true && (S : Int).toNat >>> (k : Int).toNat % 2 == 1) := by
      rw [hd, bits_and1, Int.toNat_natCast, Int.toNat_natCast, Nat.shiftRight_eq_div_pow, Bool.true_and]
      rcases Nat.mod_two_eq_zero_or_one (S / 2 ^ k) with h2 | h2 <;> rw [h2] <;> rfl
    exact ⟨by rw [← hr]; rfl, rfl⟩
/-- Players wait in these phases. -/
def waitsB (p : Int) : Bool := inB p 64 && ((115 : Int).toNat >>> p.toNat) % 2 == 1
set_option maxHeartbeats 400000 in
theorem turn_waits (p : Int) (w : World) : Calls Tryz.prog 106 #[.int .i64 p] w fun r w' => r = .returned (.bool (waitsB p)) ∧ w = w' := by
  go_enter Tryz.func106, Tryz.ntmps106
  go_wp2_with fail
  refine (bits_has 115 p (by decide) (by decide) _).mono ?_
  rintro e w' ⟨rfl, rfl⟩
  go_wp2_with fail
  go_ret
  exact ⟨rfl, rfl⟩
def EA.must' (E : EA) (ok : Bool) (n : Int) : EA := if ok then E else E.fail n
set_option maxHeartbeats 400000 in
theorem dec_must {B b : Nat} {w : World} {M : EM} {E : EA} (h : Em B w b M E) (ok : Bool) (n : Int) (hn : n ≠ 0) :
    Calls Tryz.prog 62 #[.pointer (some ⟨b, 0, none⟩), .bool ok, .int .i64 n] w fun e w' => e = .returned (.bool ((E.must' ok n).er == 0)) ∧ EmTo B w b (E.must' ok n) w' := by
  have hR : ∀ E : EA, (errV E.er = .nilIface ∧ (E.er == 0) = true) ∨ (errV E.er = .iface 52 (.int .i64 E.er) ∧ (E.er == 0) = false) := fun E => by
    rcases errV_cases E.er with ⟨h0, he⟩ | ⟨h0, he⟩
    · exact .inl ⟨he, by simpa using h0⟩
    · exact .inr ⟨he, by simpa using h0⟩
  cases ok
  · have he := errV_ne hn
    have h1 := em_fail h n
    rw [he] at h1
    go_enter Tryz.func62, Tryz.ntmps62
    go_wp2_with fail
    refine h1.mono ?_
    rintro e w1 ⟨rfl, M1, h1', hf⟩
    rcases hR (E.fail n) with ⟨he1, hb⟩ | ⟨he1, hb⟩
    all_goals
      go_wp2_with fail
      refine (em_err h1').mono ?_
      rintro e w' ⟨rfl, rfl⟩
      go_wp2_with fail
      go_ret
      exact ⟨by rw [EA.must']; simp [hb], M1, h1', hf⟩
  · rcases hR E with ⟨he1, hb⟩ | ⟨he1, hb⟩
    all_goals
      go_enter Tryz.func62, Tryz.ntmps62
      go_wp2_with fail
      refine (em_err h).mono ?_
      rintro e w' ⟨rfl, rfl⟩
      go_wp2_with fail
      go_ret
      exact ⟨by rw [EA.must']; simp [hb], .self h⟩
def EA.waits (E : EA) : EA := E.must' (waitsB (E.state.g 2)) 9
set_option maxRecDepth 100000 in
set_option maxHeartbeats 400000 in
theorem dec_waits {B b : Nat} {w : World} {M : EM} {E : EA} (h : Em B w b M E) :
    Calls Tryz.prog 79 #[.pointer (some ⟨b, 0, none⟩)] w fun e w' => e = .returned (.bool (E.waits.er == 0)) ∧ EmTo B w b E.waits w' := by
  go_enter Tryz.func79, Tryz.ntmps79
  go_wp2_with fail
  refine (em_state h).mono ?_
  rintro e w1 ⟨S', rfl, hS, hb1⟩
  have hg := hS.g
  have h1 := h.below hb1
  go_wp2_with fail
  refine (turn_waits _ _).mono ?_
  rintro e w' ⟨rfl, rfl⟩
  go_wp2_with fail
  refine (dec_must h1 _ 9 (by decide)).mono ?_
  rintro e w2 ⟨rfl, hto⟩
  go_wp2_with fail
  go_ret
  exact ⟨rfl, .after (.of_below hb1) hto⟩
end Go.Proofs.YtpfnmnpdaacjmaaGreatDoor
