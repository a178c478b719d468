/-
  journal: New and Len.
-/
import Derived.Test.YtpfnmnpdaacjmaaGreatDoorNet5
namespace Go.Proofs.YtpfnmnpdaacjmaaGreatDoor
open Go.RowKit

def joA (ev mk : Sl) (n : Int) : Array Value := #[ev.v, mk.v, .int .i64 n]
theorem joA_0 (ev mk : Sl) (n : Int) : (joA ev mk n)[0]? = some ev.v := rfl
theorem joA_1 (ev mk : Sl) (n : Int) : (joA ev mk n)[1]? = some mk.v := rfl
theorem joA_2 (ev mk : Sl) (n : Int) : (joA ev mk n)[2]? = some (.int .i64 n) := rfl
theorem joA_size (ev mk : Sl) (n : Int) : (joA ev mk n).size = 3 := rfl
theorem joA_set0 (ev mk s : Sl) (n : Int) : (joA ev mk n).setIfInBounds 0 s.v = joA s mk n := rfl
theorem joA_set1 (ev mk s : Sl) (n : Int) : (joA ev mk n).setIfInBounds 1 s.v = joA ev s n := rfl
theorem joA_set2 (ev mk : Sl) (n m : Int) : (joA ev mk n).setIfInBounds 2 (.int .i64 m) = joA ev mk m := rfl
attribute [go_sem] joA_0 joA_1 joA_2 joA_size
def nSl : Sl := ⟨none, 0, 0⟩
set_option maxHeartbeats 400000 in
theorem jo_new (w : World) : Calls Tryz.prog 20 #[] w fun r w' => r = .returned (.pointer (some ⟨w.heap.size, 0, none⟩)) ∧ w' = w.alloc (.cells (joA nSl nSl 0) 79) := by
  go_enter Tryz.func20, Tryz.ntmps20
  go_wp2_with fail
  go_ret
  exact ⟨rfl, rfl⟩
set_option maxHeartbeats 400000 in
theorem jo_len {w : World} {j : Nat} {ev mk : Sl} {n : Int} (h : Blk w j 79 (joA ev mk n)) : Calls Tryz.prog 33 #[.pointer (some ⟨j, 0, none⟩)] w fun r w' => r = .returned (.int .i64 ev.n) ∧ w = w' := by
  obtain ⟨e1, c1, f1⟩ := Blk.all h
  go_enter Tryz.func33, Tryz.ntmps33
  go_wp2_with fail
  go_ret
  exact ⟨rfl, rfl⟩
end Go.Proofs.YtpfnmnpdaacjmaaGreatDoor
