/-
  loop: Check.
-/
import Derived.Test.YtpfnmnpdaacjmaaGreatDoorJour2
namespace Go.Proofs.YtpfnmnpdaacjmaaGreatDoor
open Go.RowKit

def loopErr (n : Nat) (m : Int) : Int := if n = 0 then 2 else if 16 < n then 19 else if m < 1 ∨ 1000000 < m then 1 else 0
set_option maxHeartbeats 400000 in
theorem loop_check (a : Option Addr) (n c : Nat) (m : Int) (w : World) : Calls Tryz.prog 8 #[.slice a n c, .int .i64 m] w fun r w' => r = .returned (errV (loopErr n m)) ∧ w = w' := by
  by_cases h0 : n = 0
  · subst h0
    have hE : errV (loopErr 0 m) = errV 2 := rfl
    rw [hE]
    go_enter Tryz.func8, Tryz.ntmps8
    go_wp2_with fail
    go_ret
    exact ⟨rfl, rfl⟩
  · have hb0 : ((n : Int) == 0) = false := by simpa using h0
    by_cases h1 : 16 < n
    · have hE : errV (loopErr n m) = errV 19 := by rw [loopErr, if_neg h0, if_pos h1]
      have hb1 : decide ((16 : Int) < n) = true := by simp; omega
      rw [hE]
      clear h0 h1 hE
      go_enter Tryz.func8, Tryz.ntmps8
      go_wp2_with fail
      go_ret
      exact ⟨rfl, rfl⟩
    · have hb1 : decide ((16 : Int) < n) = false := by simp; omega
      by_cases h2 : m < 1 ∨ 1000000 < m
      · have hE : errV (loopErr n m) = errV 1 := by rw [loopErr, if_neg h0, if_neg h1, if_pos h2]
        rw [hE]
        clear h0 h1 hE
        rcases Int.lt_or_le m 1 with h3 | h3
        · go_enter Tryz.func8, Tryz.ntmps8
          go_wp2_with fail
          go_ret
          exact ⟨rfl, rfl⟩
        · have h4 : 1000000 < m := by omega
          go_enter Tryz.func8, Tryz.ntmps8
          go_wp2_with fail
          go_ret
          exact ⟨rfl, rfl⟩
      · have hE : errV (loopErr n m) = .nilIface := by rw [loopErr, if_neg h0, if_neg h1, if_neg h2]; exact errV_zero rfl
        have h3 : 1 ≤ m := by omega
        have h4 : m ≤ 1000000 := by omega
        rw [hE]
        clear h0 h1 hE h2
        go_enter Tryz.func8, Tryz.ntmps8
        go_wp2_with fail
        go_ret
        exact ⟨rfl, rfl⟩
end Go.Proofs.YtpfnmnpdaacjmaaGreatDoor
