/-
  How many decisions an expansion has: the program's and the document's; errors as numbers.
-/
import Derived.Test.YtpfnmnpdaacjmaaGreatDoorBack2
namespace Go.Proofs.YtpfnmnpdaacjmaaGreatDoor
open Go.RowKit

def loopLen (n : Nat) (m stop : Int) : Int := if loopErr n m ≠ 0 ∨ stop < -1 then 0 else if 0 ≤ stop ∧ stop < n * m then stop else n * m
theorem loopErr_ok {n : Nat} {m : Int} (h : loopErr n m = 0) : 1 ≤ n ∧ n ≤ 16 ∧ 1 ≤ m ∧ m ≤ 1000000 := by
  unfold loopErr at h
  split at h
  · cases h
  · split at h
    · cases h
    · split at h
      · cases h
      · omega
theorem loopErr_mul {n : Nat} {m : Int} (h : loopErr n m = 0) : 1 ≤ (n : Int) * m ∧ (n : Int) * m ≤ 16000000 := by
  obtain ⟨h1, h2, h3, h4⟩ := loopErr_ok h
  have a1 : (1 : Int) * 1 ≤ n * m := Int.mul_le_mul (by omega) h3 (by decide) (by omega)
  have a2 : (n : Int) * m ≤ 16 * 1000000 := Int.mul_le_mul (by omega) h4 (by omega) (by decide)
  omega
theorem loopLen_lo (n : Nat) (m stop : Int) : 0 ≤ loopLen n m stop ∧ loopLen n m stop ≤ 16000000 := by
  unfold loopLen
  split
  · omega
  · rename_i h
    have := loopErr_mul (n := n) (m := m) (by omega)
    split <;> omega
set_option maxHeartbeats 400000 in
theorem loop_length (a : Option Addr) (n c : Nat) (m stop : Int) (w : World) : Calls Tryz.prog 10 #[.slice a n c, .int .i64 m, .int .i64 stop] w fun r w' => r = .returned (.int .i64 (loopLen n m stop)) ∧ w = w' := by
  have hC := loop_check a n c m w
  rcases errV_cases (loopErr n m) with ⟨h0, he⟩ | ⟨h0, he⟩
  · rw [he] at hC
    have hm := loopErr_mul h0
    obtain ⟨hm1, hm2⟩ := hm
    rcases Int.lt_or_le stop (-1) with h1 | h1
    · have hL : loopLen n m stop = 0 := by rw [loopLen, if_pos (.inr h1)]
      rw [hL]
      clear hL h0 he
      go_enter Tryz.func10, Tryz.ntmps10
      go_wp2_with fail
      refine hC.mono ?_
      rintro e w' ⟨rfl, rfl⟩
      go_wp2_with fail
      go_ret
      exact ⟨rfl, rfl⟩
    · rcases Int.lt_or_le stop 0 with h2 | h2
      · have hL : loopLen n m stop = n * m := by rw [loopLen, if_neg (by omega), if_neg (by omega)]
        rw [hL]
        clear hL h0 he
        go_enter Tryz.func10, Tryz.ntmps10
        go_wp2_with fail
        refine hC.mono ?_
        rintro e w' ⟨rfl, rfl⟩
        go_wp2_with fail
        go_ret
        exact ⟨rfl, rfl⟩
      · rcases Int.lt_or_le stop (n * m) with h3 | h3
        · have hL : loopLen n m stop = stop := by rw [loopLen, if_neg (by omega), if_pos ⟨h2, h3⟩]
          rw [hL]
          clear hL h0 he
          go_enter Tryz.func10, Tryz.ntmps10
          go_wp2_with fail
          refine hC.mono ?_
          rintro e w' ⟨rfl, rfl⟩
          go_wp2_with fail
          go_ret
          exact ⟨rfl, rfl⟩
        · have hL : loopLen n m stop = n * m := by rw [loopLen, if_neg (by omega), if_neg (by omega)]
          rw [hL]
          clear hL h0 he
          go_enter Tryz.func10, Tryz.ntmps10
          go_wp2_with fail
          refine hC.mono ?_
          rintro e w' ⟨rfl, rfl⟩
          go_wp2_with fail
          go_ret
          exact ⟨rfl, rfl⟩
  · rw [he] at hC
    have hL : loopLen n m stop = 0 := by rw [loopLen, if_pos (.inl h0)]
    rw [hL]
    clear hL h0 he
    go_enter Tryz.func10, Tryz.ntmps10
    go_wp2_with fail
    refine hC.mono ?_
    rintro e w' ⟨rfl, rfl⟩
    go_wp2_with fail
    go_ret
    exact ⟨rfl, rfl⟩
set_option maxHeartbeats 400000 in
theorem ref29_check (a : Option Addr) (n c : Nat) (m : Int) (w : World) : Calls Tryz.prog 9 #[.slice a n c, .int .i64 m] w fun r w' => r = .returned (.int .i64 (loopErr n m)) ∧ w = w' := by
  by_cases h0 : n = 0
  · subst h0
    have hE : loopErr 0 m = 2 := rfl
    rw [hE]
    go_enter Tryz.func9, Tryz.ntmps9
    go_wp2_with fail
    go_ret
    exact ⟨rfl, rfl⟩
  · have hb0 : ((n : Int) == 0) = false := by simpa using h0
    by_cases h1 : 16 < n
    · have hE : loopErr n m = 19 := by rw [loopErr, if_neg h0, if_pos h1]
      have hb1 : decide ((16 : Int) < n) = true := by simp; omega
      rw [hE]
      clear h0 h1 hE
      go_enter Tryz.func9, Tryz.ntmps9
      go_wp2_with fail
      go_ret
      exact ⟨rfl, rfl⟩
    · have hb1 : decide ((16 : Int) < n) = false := by simp; omega
      by_cases h2 : m < 1 ∨ 1000000 < m
      · have hE : loopErr n m = 1 := by rw [loopErr, if_neg h0, if_neg h1, if_pos h2]
        rw [hE]
        clear h0 h1 hE
        rcases Int.lt_or_le m 1 with h3 | h3
        · go_enter Tryz.func9, Tryz.ntmps9
          go_wp2_with fail
          go_ret
          exact ⟨rfl, rfl⟩
        · have h4 : 1000000 < m := by omega
          go_enter Tryz.func9, Tryz.ntmps9
          go_wp2_with fail
          go_ret
          exact ⟨rfl, rfl⟩
      · have hE : loopErr n m = 0 := by rw [loopErr, if_neg h0, if_neg h1, if_neg h2]
        have h3 : 1 ≤ m := by omega
        have h4 : m ≤ 1000000 := by omega
        rw [hE]
        clear h0 h1 hE h2
        go_enter Tryz.func9, Tryz.ntmps9
        go_wp2_with fail
        go_ret
        exact ⟨rfl, rfl⟩
set_option maxHeartbeats 400000 in
theorem ref29_length (a : Option Addr) (n c : Nat) (m stop : Int) (w : World) : Calls Tryz.prog 5 #[.slice a n c, .int .i64 m, .int .i64 stop] w fun r w' => r = .returned (.int .i64 (loopLen n m stop)) ∧ w = w' := by
  have hC := ref29_check a n c m w
  by_cases h0 : loopErr n m = 0
  · rw [h0] at hC
    obtain ⟨hm1, hm2⟩ := loopErr_mul h0
    rcases Int.lt_or_le stop (-1) with h1 | h1
    · have hL : loopLen n m stop = 0 := by rw [loopLen, if_pos (.inr h1)]
      rw [hL]
      clear hL h0
      go_enter Tryz.func5, Tryz.ntmps5
      go_wp2_with fail
      refine hC.mono ?_
      rintro e w' ⟨rfl, rfl⟩
      go_wp2_with fail
      go_ret
      exact ⟨rfl, rfl⟩
    · rcases Int.lt_or_le stop 0 with h2 | h2
      · have hL : loopLen n m stop = n * m := by rw [loopLen, if_neg (by omega), if_neg (by omega)]
        rw [hL]
        clear hL h0
        go_enter Tryz.func5, Tryz.ntmps5
        go_wp2_with fail
        refine hC.mono ?_
        rintro e w' ⟨rfl, rfl⟩
        go_wp2_with fail
        go_ret
        exact ⟨rfl, rfl⟩
      · rcases Int.lt_or_le stop (n * m) with h3 | h3
        · have hL : loopLen n m stop = stop := by rw [loopLen, if_neg (by omega), if_pos ⟨h2, h3⟩]
          rw [hL]
          clear hL h0
          go_enter Tryz.func5, Tryz.ntmps5
          go_wp2_with fail
          refine hC.mono ?_
          rintro e w' ⟨rfl, rfl⟩
          go_wp2_with fail
          go_ret
          exact ⟨rfl, rfl⟩
        · have hL : loopLen n m stop = n * m := by rw [loopLen, if_neg (by omega), if_neg (by omega)]
          rw [hL]
          clear hL h0
          go_enter Tryz.func5, Tryz.ntmps5
          go_wp2_with fail
          refine hC.mono ?_
          rintro e w' ⟨rfl, rfl⟩
          go_wp2_with fail
          go_ret
          exact ⟨rfl, rfl⟩
  · have hb : (loopErr n m != 0) = true := by simpa using h0
    have hL : loopLen n m stop = 0 := by rw [loopLen, if_pos (.inl h0)]
    rw [hL]
    clear hL h0
    go_enter Tryz.func5, Tryz.ntmps5
    go_wp2_with fail
    refine hC.mono ?_
    rintro e w' ⟨rfl, rfl⟩
    go_wp2_with fail
    go_ret
    exact ⟨rfl, rfl⟩
theorem as_err (v : Value) (xT : TypeId) (w : World) : (Instr.typeAssert (.iface 52 v) xT 52 true).run Tryz.prog w = .ok (.tuple #[v, .bool true]) w := by
  simp [Instr.typeAssert, Sem.run_bind, run_underlying Tryz.underlying52]
attribute [go_sem] as_err
set_option maxRecDepth 100000 in
set_option maxHeartbeats 400000 in
theorem num_num (n : Int) (w : World) : Calls Tryz.prog 7 #[errV n] w fun r w' => r = .returned (.int .i64 n) ∧ w = w' := by
  rcases errV_cases n with ⟨h0, he⟩ | ⟨h0, he⟩
  · subst h0
    rw [he]
    clear he
    go_enter Tryz.func7, Tryz.ntmps7
    go_wp2_with fail
    go_ret
    exact ⟨rfl, rfl⟩
  · have hb : (n != 0) = true := by simpa using h0
    rw [he]
    clear he
    go_enter Tryz.func7, Tryz.ntmps7
    go_wp2_with fail
    go_ret
    exact ⟨rfl, rfl⟩
end Go.Proofs.YtpfnmnpdaacjmaaGreatDoor
