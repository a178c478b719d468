/-
  mulliganref26.Same at two decisions that read the same.
-/
import Derived.Test.YtpfnmnpdaacjmaaGreatDoorExp2
namespace Go.Proofs.YtpfnmnpdaacjmaaGreatDoor
open Go.RowKit

set_option maxRecDepth 100000 in
set_option maxHeartbeats 1000000 in
theorem ref26_same {B : Nat} {w : World} (k o n t : Int) {l1 l2 : Sl} {L : List Int} (h1 : RdI B w l1 L) (h2 : RdI B w l2 L) (hL : L.length ≤ 17179869184) :
    Calls Tryz.prog 11 #[.agg (deA ⟨k, o, n, t, l1⟩), .agg (deA ⟨k, o, n, t, l2⟩)] w fun e w' => e = .returned (.bool true) ∧ Below w.heap.size w w' := by
  have hn1 := h1.len
  have hn2 := h2.len
  obtain ⟨a1, m1, c1⟩ := l1
  obtain ⟨a2, m2, c2⟩ := l2
  simp only at hn1 hn2
  subst hn1
  subst hn2
  have H1 := hide h1
  have H2 := hide h2
  clear h1 h2
  have hb0 := below2 w (.cells (deA ⟨k, o, n, t, ⟨a1, L.length, c1⟩⟩) 36) (.cells (deA ⟨k, o, n, t, ⟨a2, L.length, c2⟩⟩) 36)
  go_enter Tryz.func11, Tryz.ntmps11
  go_wp2_with fail
  go_loopw [44] (fun i wr => ∃ j : Nat, j ≤ L.length ∧ i = .int .i64 j ∧ Below w.heap.size w wr ∧ Blk wr w.heap.size 36 (deA ⟨k, o, n, t, ⟨a1, L.length, c1⟩⟩) ∧ Blk wr (w.heap.size + 1) 36 (deA ⟨k, o, n, t, ⟨a2, L.length, c2⟩⟩)) (fun i _ => L.length - (intOf i).toNat)
  case atStart =>
    refine ⟨0, by omega, rfl, hb0, (Blk.new w _ _).alloc _, ?_⟩
    have := Blk.new (w.alloc (.cells (deA ⟨k, o, n, t, ⟨a1, L.length, c1⟩⟩) 36)) 36 (deA ⟨k, o, n, t, ⟨a2, L.length, c2⟩⟩)
    simpa using this
  case round =>
    obtain ⟨j, hj, rfl, hbl, hx, hy⟩ := hrel
    obtain ⟨wo, rfl⟩ : ∃ wo, wo = wr := ⟨_, rfl⟩
    obtain ⟨e1, c1', f1⟩ := Blk.all hx
    obtain ⟨e2, c2', f2⟩ := Blk.all hy
    by_cases hjn : j = L.length
    · subst hjn
      go_wp2_with fail
      go_ret
      exact ⟨rfl, hbl⟩
    · have hjl : j < L.length := by omega
      have hjI : (j : Int) < (L.length : Int) := by omega
      obtain ⟨b1, o1, hA1, _, _, hc1⟩ := RdI.cell ((unhide H1).fr (.of_below hbl)) (by omega)
      obtain ⟨b2, o2, hA2, _, _, hc2⟩ := RdI.cell ((unhide H2).fr (.of_below hbl)) (by omega)
      simp only at hA1 hA2
      subst hA1
      subst hA2
      have hv1 := hc1 j hjl
      have hv2 := hc2 j hjl
      obtain ⟨v, hv⟩ : ∃ v, v = L[j] := ⟨_, rfl⟩
      rw [← hv] at hv1 hv2
      clear hc1 hc2 hv
      go_wp2_with fail
      go_quiet (fail)
      go_wp2_with fail
      go_roundw
      case measure => simp [intOf]; omega
      case rel => exact ⟨j + 1, by omega, by go_num, below_drewN hbl _, hx.drewN _, hy.drewN _⟩
end Go.Proofs.YtpfnmnpdaacjmaaGreatDoor
