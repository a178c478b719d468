/-
  The chapter's example holds.
-/
import Derived.Test.YtpfnmnpdaacjmaaGreatDoorAlive1
namespace Go.Proofs.YtpfnmnpdaacjmaaGreatDoor
open Go.RowKit

theorem stA_set12 (S : SV) (x : Int) : (stA S).setIfInBounds 12 (.int .i64 x) = stA { S with p := upd S.p 0 x } := stA_setP S 0 (by decide) x
theorem stA_set21 (S : SV) (x : Int) : (stA S).setIfInBounds 21 (.int .i64 x) = stA { S with p := upd S.p 9 x } := stA_setP S 9 (by decide) x
theorem stA_set32 (S : SV) (x : Int) : (stA S).setIfInBounds 32 (.int .i64 x) = stA { S with g := upd S.g 2 x } := stA_setG S 2 (by decide) x
attribute [go_sem] stA_set12 stA_set21 stA_set32
def S0 : SV := ⟨⟨none, 0, 0⟩, fun _ => ⟨none, 0, 0⟩, P0, G0⟩
theorem rdS0 (w : World) : RdS 0 w S0 s0 := ⟨Nat.zero_le _, Rd.nil _ _ _, fun _ _ => Rd.nil _ _ _, rfl, rfl⟩
def de0 : De := ⟨0, 0, 0, 0, ⟨none, 0, 0⟩⟩
theorem turn1 (w : World) : Turn (w.alloc (.cells (deA de0) 36)) ⟨some ⟨w.heap.size, 0, none⟩, 1, 1⟩ [de0] (fun _ => []) := by
  have hb := Blk.new w 36 (deA de0)
  refine ⟨⟨rfl, Nat.le_refl _, fun _ => ⟨w.heap.size, 0, rfl, hb.lt, .inl hb.lt, fun j u hu => ?_⟩⟩, fun i hi => ?_⟩
  · rw [Nat.zero_add, hb.cell]
    simpa [desV, deV] using hu
  · have : i = 0 := by simp at hi; omega
    subst this
    exact ⟨Rd.nil _ _ _, by simp⟩
set_option maxRecDepth 100000 in
set_option maxHeartbeats 1000000 in
theorem law_alive (w : World) (hG : Glob w) (hT : gTop ≤ w.heap.size) (h6 : 6 ≤ w.heap.size) :
    Calls Tryz.prog 4 #[] w fun e w' => e = .returned (.bool true) ∧ Below w.heap.size w w' := by
  have hb0 : Below w.heap.size w (w.alloc (.cells (stA S0) 44)) := below1 _ _
  have hop := ga_open (w := w.alloc (.cells (stA S0) 44)) (rdS0 _) (few_nil _ _) (sd := ⟨none, 0, 0⟩) (dr := []) (Rd.nil _ _ _) (by simp) (hG.belowT hb0 hT) (Nat.le_trans hT hb0.size) (by simp; omega) chk0
  go_enter Tryz.func4, Tryz.ntmps4
  go_wp2_with fail
  refine hop.mono ?_
  rintro e w1 ⟨g, j, S1, d1, rfl, h1, hb1⟩
  clear hop
  have hq1 := hb0.trans (hb1.mono hb0.size)
  have hlt1 := h1.blk.lt
  have hb2 := below1 w1 (.cells (deA de0) 36)
  have hq2 := hq1.trans (hb2.mono hq1.size)
  have h2 := h1.below hb2
  have h82 : 8 ≤ (w1.alloc (.cells (deA de0) 36)).heap.size := by have := hb1.size; simp at this ⊢; omega
  have hpl := loop_play h2 (hG.belowT hq2 hT) h82 (turn1 w1) 2 (-1) (by decide) (by decide) (N := 2) (by decide) (fun i hi => by
      have : i = 0 := by simp at hi; omega
      subst this
      exact ⟨rfl, by kernel_rfl⟩) (st := stN) (es := esN) rfl passes2 (by decide) (by
      intro x hx
      rw [show evsTo esN 2 = ev1 ++ ev2 from rfl, net12] at hx
      simp only [List.mem_cons, List.not_mem_nil, or_false] at hx
      subst hx
      exact goodEv_of _ (.inr rfl)) (s' := s3) (by rw [show evsTo esN 2 = ev1 ++ ev2 from rfl, net12]; exact run12) (few_nil _ _) chk3
      (by rw [show evsTo esN 2 = ev1 ++ ev2 from rfl, net12]; decide) (by decide) (by decide)
  go_wp2_with fail
  refine hpl.mono ?_
  rintro e w3 ⟨rfl, S3, ev3, mk3, h3, hb3⟩
  clear hpl
  have hst := ga_state h3
  have hq3 := hq2.trans (hb3.mono hb0.size)
  go_wp2_with fail
  refine hst.mono ?_
  rintro e w4 ⟨S4, rfl, hS4, hb4⟩
  have hg4 : (S4.g 2 == 2) = true := by rw [hS4.g]; rfl
  clear hst
  go_wp2_with fail
  go_ret
  exact ⟨rfl, hq3.trans (hb4.mono hq3.size)⟩
end Go.Proofs.YtpfnmnpdaacjmaaGreatDoor
